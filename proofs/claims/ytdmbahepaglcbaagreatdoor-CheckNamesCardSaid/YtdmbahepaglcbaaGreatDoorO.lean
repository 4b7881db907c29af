/- The maker's core, whole. No condition but that the numbers are such. -/
import Derived.Test.YtdmbahepaglcbaaGreatDoorL
import Derived.Test.YtdmbahepaglcbaaGreatDoorN
import Derived.Test.YtdmbahepaglcbaaGreatDoorB
set_option linter.unusedSimpArgs false
set_option linter.unusedVariables false
namespace Go.Proofs.YtdmbahepaglcbaaGreatDoor
open Go Fp
set_option maxRecDepth 10000
set_option maxHeartbeats 8000000
set_option linter.unusedVariables false
abbrev zdG (n:Int):Cr := .node 3 n .empty .no .nil
abbrev zd1 (s:ByteArray) (t:Tp) (c:Cr):Cr := .node 5 0 s t (.kid c .nil)
abbrev zVY (a b:Cr):Cr := .node 4 0 .empty .no (.kid a (.kid b .nil))
abbrev zNI (t:Tp) (a:Cr):Cr := .node 6 0 .empty t (.kid a .nil)
abbrev zLD (s:ByteArray) (a:Cr):Cr := .node 7 0 s .no (.kid a .nil)
theorem z4B (n:Int):zF Tryz.prog zU2 [.lit (.int .i64 n)] (eC (zdG n)):=by
 refine zG ttok mixed Tryz.func48 rfl (by rfl) (Nat.le_of_ble_eq_true rfl) (by kernel_rfl) ?_;exact rfl
def zPB (c:Cr):Prop:=zF Tryz.prog wH [eC c] (eC c)
theorem z7L {s:ByteArray} {t:Tp} {c:Cr} (ht:TyS t) (hc:zPB c):zF Tryz.prog zUR [str s,eTy t,eC c] (eC (zd1 s t c)):=by
 refine zG ttok mixed Tryz.func22 rfl (by rfl) (Nat.le_of_ble_eq_true rfl) (by kernel_rfl) ?_;refine .inl ⟨_,zQJ ht,?_⟩;refine .inl ⟨_,hc,?_⟩;refine⟨by kernel_rfl,?_⟩;exact rfl
theorem z4M {f:Cr} {l:List Cr} (hf:zPB f) (hl:∀c∈l,zPB c) (hlen:l.length<=1000000):zF Tryz.prog zUM [eC f,.sl (eCs l)] (eC (l.foldl zVY f)):=by
 refine zG ttok mixed Tryz.func21 rfl (by rfl) (Nat.le_of_ble_eq_true rfl) (by kernel_rfl) ?_;refine .inl ⟨_,hf,?_⟩;refine⟨{k:Nat // k<=l.length},fun k=>{vs:=[(4,.box 0 eZ),(5,.box 0 (eC ((l.take k.1).foldl zVY f))),(10,.v (.sl (eCs l))),(11,sv (l.length:Nat)),(12,sv (k.1:Nat))]},fun k=>l.length-k.1,⟨0,Nat.zero_le _⟩,?_,?_⟩
 ·exact⟨⟨rfl,rfl,rfl,by show sv _=sv _;simp[eCs],rfl,trivial⟩,trivial,rfl⟩
 rintro⟨k,hk⟩;refine⟨fun h=>?_,fun h=>?_⟩
 ·have h:k<l.length:=by
   have h:=of_decide_eq_true h;simp only at h;omega
  refine⟨eC l[k],by omega,(by show (eCs l)[k]? = _;simp[eCs,List.getElem?_eq_getElem h]),rfl,?_⟩;refine .inl ⟨_,hl _ (List.getElem_mem h),?_⟩;refine⟨by kernel_rfl,?_⟩;refine⟨⟨k+1,h⟩,by simp;omega,⟨rfl,?_,rfl,rfl,svc (wrap_succ (k:=k) (by omega)),trivial⟩,trivial,rfl⟩;show SV.box 0 (eC (zVY ((l.take k).foldl zVY f) l[k]))=SV.box 0 (eC ((l.take (k+1)).foldl zVY f));rw[<-List.take_append_getElem h,List.foldl_append];rfl
 ·have h:k=l.length:=by
   have h:=of_decide_eq_false h;simp only at h;omega
  subst h;show eC (List.foldl zVY f (List.take l.length l))=_;rw[List.take_length]
theorem z1O {f:Cr} {l:List Tp} (hf:zPB f) (hl:∀c∈l,TyS c) (hlen:l.length<=1000000):zF Tryz.prog zR0 [eC f,.sl (yA l)] (eC (l.foldl (fun a t=>zNI t a) f)):=by
 refine zG ttok mixed Tryz.func27 rfl (by rfl) (Nat.le_of_ble_eq_true rfl) (by kernel_rfl) ?_;refine .inl ⟨_,hf,?_⟩;refine⟨{k:Nat // k<=l.length},fun k=>{vs:=[(4,.box 0 eZ),(5,.box 0 (eC ((l.take k.1).foldl (fun a t=>zNI t a) f))),(10,.v (.sl (yA l))),(11,sv (l.length:Nat)),(12,sv (k.1:Nat))]},fun k=>l.length-k.1,⟨0,Nat.zero_le _⟩,?_,?_⟩
 ·exact⟨⟨rfl,rfl,rfl,by show sv _=sv _;simp[yA],rfl,trivial⟩,trivial,rfl⟩
 rintro⟨k,hk⟩;refine⟨fun h=>?_,fun h=>?_⟩
 ·have h:k<l.length:=by
   have h:=of_decide_eq_true h;simp only at h;omega
  refine⟨eTy l[k],by omega,(by show (yA l)[k]? = _;simp[yA,List.getElem?_eq_getElem h]),rfl,?_⟩;refine .inl ⟨_,zQJ (hl _ (List.getElem_mem h)),?_⟩;refine⟨by kernel_rfl,?_⟩;refine⟨⟨k+1,h⟩,by simp;omega,⟨rfl,?_,rfl,rfl,svc (wrap_succ (k:=k) (by omega)),trivial⟩,trivial,rfl⟩;show SV.box 0 (eC (zNI l[k] ((l.take k).foldl (fun a t=>zNI t a) f)))=SV.box 0 (eC ((l.take (k+1)).foldl (fun a t=>zNI t a) f));rw[<-List.take_append_getElem h,List.foldl_append];rfl
 ·have h:k=l.length:=by
   have h:=of_decide_eq_false h;simp only at h;omega
  subst h;show eC (List.foldl (fun a t=>zNI t a) f (List.take l.length l))=_;rw[List.take_length]
theorem zY5 {f:Cr} {l:List ByteArray} (hf:zPB f) (hlen:l.length<=1000000):zF Tryz.prog zTW [eC f,.sl (eSs l)] (eC (l.reverse.foldl (fun a s=>zLD s a) f)):=by
 refine zG ttok mixed Tryz.func26 rfl (by rfl) (Nat.le_of_ble_eq_true rfl) (by kernel_rfl) ?_;refine .inl ⟨_,hf,?_⟩;refine⟨{k:Nat // k<=l.length},fun k=>{vs:=[(1,.v (.sl (eSs l))),(4,.box 0 eZ),(5,.box 0 (eC ((l.reverse.take k.1).foldl (fun a s=>zLD s a) f))),(9,.v (.sl (eSs l))),(10,sv (l.length:Nat)),(11,sv (k.1:Nat))]},fun k=>l.length-k.1,⟨0,Nat.zero_le _⟩,?_,?_⟩
 ·exact⟨⟨rfl,rfl,rfl,rfl,by show sv _=sv _;simp[eSs],rfl,trivial⟩,trivial,rfl⟩
 rintro⟨k,hk⟩;refine⟨fun h=>?_,fun h=>?_⟩
 ·have h:k<l.length:=by
   have h:=of_decide_eq_true h;simp only at h;omega
  have hlr:k<l.reverse.length:=by simp;exact h
  have e1:l.reverse[k]=l[l.length-1-k]:=List.getElem_reverse hlr;have e2:IntKind.i64.wrap (IntKind.i64.wrap (((eSs l).length:Int)-1)-(k:Nat))=((l.length-1-k:Nat):Int):=by
   have:(eSs l).length=l.length:=by simp[eSs]
   have a1:IntKind.i64.wrap ((l.length:Int)-1)=(l.length:Int)-1:=wrap_in (by unfold InR;omega);rw[this,a1,wrap_in (by unfold InR;omega)];omega
  refine⟨str l[l.length-1-k],by simp only;rw[e2];omega,?_,rfl,?_⟩
  ·simp only;rw[e2];show (eSs l)[l.length-1-k]? = _;simp[eSs,List.getElem?_eq_getElem (show l.length-1-k<l.length by omega)]
  refine⟨by kernel_rfl,?_⟩;refine⟨⟨k+1,h⟩,by simp;omega,⟨rfl,rfl,?_,rfl,rfl,svc (wrap_succ (k:=k) (by omega)),trivial⟩,trivial,rfl⟩;show SV.box 0 (eC (zLD l[l.length-1-k] ((l.reverse.take k).foldl (fun a s=>zLD s a) f)))=SV.box 0 (eC ((l.reverse.take (k+1)).foldl (fun a s=>zLD s a) f));rw[<-List.take_append_getElem hlr,List.foldl_append,e1];rfl
 ·have h:k=l.length:=by
   have h:=of_decide_eq_false h;simp only at h;omega
  subst h;show eC (List.foldl (fun a s=>zLD s a) f (List.take l.length l.reverse))=_;rw[List.take_of_length_le (by simp)]
noncomputable def sgO (x:ByteArray) (b:Cr) (y:ByteArray):DC:=if y=x then dbc b [] [] else .fr y
theorem zc5 {c b:Cr} {x:ByteArray} {N:Nat} (hc:c.Ok) (hn:c.isN=true) (hb:b.Ok) (hbn:b.isN=true) (hs:c.sz<=N):dbc (sbF N c x b) [] []=sbD (sgO x b) .fr (dbc c [] []):=by
 refine z3K N c x b [] [] [] (sgO x b) hc hn hb hbn hs fun y hy => .inr ⟨List.not_mem_nil,fun z _=>List.not_mem_nil,fun z _=>List.not_mem_nil,?_⟩;unfold sgO wF;by_cases h:y=x
 ·rw[if_pos h,if_pos h.symm]
 ·rw[if_neg h,if_neg (Ne.symm h),zGZ]
theorem zeE {α:Type} {f:α->AV} {l:List α} {k:Nat} (h:k<l.length):(l.map f)[k]? = some (f l[k]):=by simp[h]
def z6M (esz:Nat) (r:AV) (o:Nat) (h:List (Nat×HO)):Prop :=
 (r = .sl []/\o=esz+1/\h=[])∨(o=0/\∃b cap zs,r = .lit (.slice (some ⟨b,0,none⟩) 0 cap)/\h=[(b,HO.cells zs)]/\cap*esz<=zs.length)
theorem zL7 {α:Type} {ls:List (List α)} {k:Nat} (h:k<ls.length):(ls.take (k+1)).flatten=(ls.take k).flatten++ls[k]:=by
 rw[List.take_succ_eq_append_getElem h,List.flatten_append];simp
theorem zMO {α:Type}:∀(ls:List (List α)) (k:Nat),(ls.take k).flatten.length<=ls.flatten.length
 | [],k=>by simp
 | l::ls,0=>by simp
 | l::ls,k+1=>by have:=zMO ls k;simp only[List.take_succ_cons,List.flatten_cons,List.length_append];omega
theorem zZ4 {n:Nat} {ls:List (List AV)} (hu:∀l∈ls,Uni n l) (k:Nat):Uni n (ls.take k).flatten:=fun a ha=>by
 obtain⟨l,hl,h⟩:=List.mem_flatten.1 ha;exact hu l (List.mem_of_mem_take hl) a h
set_option maxRecDepth 100000
theorem zVP {p:ByteArray->Bool} {l:List Tp} {k:Nat} (h:k<l.length):zKL p l=(l.drop (k+1)).foldl (fun out a=>zC p out (fv a)) (zC p (zKL p (l.take k)) (fv l[k])):=by
 have e:l=l.take k++(l[k]::l.drop (k+1)):=by rw[<-List.drop_eq_getElem_cons h,List.take_append_drop]
 conv=>lhs;rw[e]
 simp only[zKL,List.foldl_append,List.foldl_cons]
theorem z5L {p:ByteArray->Bool} (l:List Tp):∀(out:List ByteArray) (x:ByteArray),x∈out->x∈l.foldl (fun out a=>zC p out (fv a)) out:=by
 induction l with
 | nil=>exact fun out x h=>h
 | cons a l ih=>exact fun out x h=>ih _ x (zME p (fv a) out x h)
theorem zVT {p:ByteArray->Bool} (l:List Tp):(zKL p l).Nodup:=by
 have:∀(l:List Tp) (out:List ByteArray),out.Nodup->(l.foldl (fun out a=>zC p out (fv a)) out).Nodup:=by
  intro l;induction l with
  | nil=>exact fun out h=>h
  | cons a l ih=>exact fun out h=>ih _ (yE h)
 exact this l [] List.nodup_nil
theorem z9J {t:Tp} (hf:¬t.form=2) {k:Nat} (h:k<t.args.length) (j:Nat):(zC (zAN t) (zKL (zAN t) (t.args.take k)) ((fv t.args[k]).take j)).length<=(fv t).length:=by
 refine qV _ _ (yE (zVT _)) fun x hx=>?_;rw[z4N t hf,zVP h];refine z5L _ _ _ ?_;have e:fv t.args[k]=(fv t.args[k]).take j++(fv t.args[k]).drop j:=(List.take_append_drop j _).symm;rw[e,yB];exact zME _ _ _ _ hx
theorem zWP (t:Tp) (hs:(fv t).length<=1000000000) (hs2:∀a∈t.args,(fv a).length<=1000000000) (ih:∀a∈t.args,zF Tryz.prog zDW [eTy a] (.sl (eSs (fv a)))):zF Tryz.prog zDW [eTy t] (.sl (eSs (fv t))):=by
 refine zD ttok mixed Tryz.func127 rfl (by rfl) (Nat.le_of_ble_eq_true rfl) (by kernel_rfl) ?_;refine⟨fun h=>?_,fun h=>?_⟩
 ·obtain⟨s,rfl⟩:=Tp.is_var (t:=t) (by simpa using h);exact rfl
 ·have hf:¬t.form=2:=by simpa using h
  rw[z4N t hf];have hlen:t.eArgs.length=t.args.length:=zcD t;have h2:=zK8 t;refine⟨{k:Nat // k<=t.args.length},fun k=>{vs:=[(1,.box 0 (eTy t)),(3,.v (.sl (eSs (zKL (zAN t) (t.args.take k.1))))),(15,.v (.sl t.eArgs)),(16,.v (.lit (.int .i64 (t.eArgs.length:Nat)))),(17,.v (.lit (.int .i64 (k.1:Nat))))],ow:=[(3,0,2)]},
   fun k=>t.args.length-k.1,⟨0,Nat.zero_le _⟩,⟨⟨rfl,rfl,rfl,rfl,rfl,trivial⟩,⟨trivial,trivial⟩,rfl⟩,?_⟩
  rintro⟨k,hk⟩;refine⟨fun h=>?_,fun h=>?_⟩
  ·have h:k<t.args.length:=by simp[hlen] at h;omega
   refine⟨eTy t.args[k],by simp,by rw[t.eArgs_eq];exact zQI h,rfl,?_⟩;refine .inl ⟨_,ih _ (List.getElem_mem h),?_⟩;obtain⟨out,hout⟩:∃out,out=zKL (zAN t) (t.args.take k):=⟨_,rfl⟩
   obtain⟨m,hm⟩:∃m,m=fv t.args[k]:=⟨_,rfl⟩
   rw[<-hout,<-hm];have hol:∀j,(zC (zAN t) out (m.take j)).length<=1000000000:=fun j=>by rw[hout,hm];exact Nat.le_trans (z9J hf h j) hs
   have hml:m.length<=1000000000:=by rw[hm];exact hs2 _ (List.getElem_mem h)
   have hlm:(eSs m).length=m.length:=by simp[eSs]
   refine⟨{j:Nat // j<=m.length},fun j=>{vs:=[(1,.box 0 (eTy t)),(3,.v (.sl (eSs (zC (zAN t) out (m.take j.1))))),(15,.v (.sl t.eArgs)),(16,.v (.lit (.int .i64 (t.eArgs.length:Nat)))),(17,.v (.lit (.int .i64 (k:Nat)))),(22,.v (.sl (eSs m))),(23,.v (.lit (.int .i64 ((eSs m).length:Nat)))),(24,.v (.lit (.int .i64 (j.1:Nat))))],ow:=[(3,0,2)]},
    fun j=>m.length-j.1,⟨0,Nat.zero_le _⟩,⟨⟨rfl,rfl,rfl,rfl,rfl,rfl,rfl,rfl,trivial⟩,⟨rfl,trivial⟩,rfl⟩,?_⟩
   rintro⟨j,hj⟩;refine⟨fun h3=>?_,fun h3=>?_⟩
   ·have h3:j<m.length:=by simp[hlm] at h3;omega
    have hacc:=hol j;have htk:=zKD (p:=zAN t) (out:=out) h3;refine⟨_,by omega,zEK h3,rfl,?_⟩;refine .inl ⟨_,xN (l:=zC (zAN t) out (m.take j)) (s:=m[j]) (by omega),?_⟩;have wj:IntKind.i64.wrap ((j:Int)+1)=((j+1:Nat):Int):=wrap_succ (by omega);have skip:∀(_:zC (zAN t) out (m.take (j+1))=zC (zAN t) out (m.take j)),AV.sl (eSs (zC (zAN t) out (m.take j)))=AV.sl (eSs (zC (zAN t) out (m.take (j+1)))):=fun e=>by rw[e]
    refine⟨fun hc=>?_,fun hc=>?_⟩
    ·have hc:memb m[j] (zC (zAN t) out (m.take j))=false:=by simpa using hc
     refine⟨fun h5=>?_,fun h5=>?_⟩
     ·refine⟨fun h6=>?_,fun h6=>?_⟩
      ·rw[zKT hc (by simp[zAN] at h5 h6⊢;simp[h6])] at htk;refine⟨by simp[eSs];omega,yP _,yP [_],?_⟩;refine⟨⟨j+1,h3⟩,(show m.length-(j+1)<m.length-j by omega),⟨rfl,?_,rfl,rfl,rfl,rfl,rfl,?_,trivial⟩,⟨rfl,trivial⟩,rfl⟩
       ·show SV.v (AV.sl (eSs (zC (zAN t) out (m.take j))++[AV.lit (.string m[j])]))=SV.v (AV.sl (eSs (zC (zAN t) out (m.take (j+1)))));rw[zDA,htk]
       ·exact congrArg (fun n=>SV.v (AV.lit (Value.int .i64 n))) wj
      ·rw[zIH (.inr (by simp[zAN] at h5 h6⊢;simp[h5,h6]))] at htk;refine⟨⟨j+1,h3⟩,(show m.length-(j+1)<m.length-j by omega),⟨rfl,?_,rfl,rfl,rfl,rfl,rfl,?_,trivial⟩,⟨rfl,trivial⟩,rfl⟩
       ·exact congrArg SV.v (skip htk)
       ·exact congrArg (fun n=>SV.v (AV.lit (Value.int .i64 n))) wj
     ·rw[zKT hc (by simp[zAN] at h5⊢;simp[h5])] at htk;refine⟨by simp[eSs];omega,yP _,yP [_],?_⟩;refine⟨⟨j+1,h3⟩,(show m.length-(j+1)<m.length-j by omega),⟨rfl,?_,rfl,rfl,rfl,rfl,rfl,?_,trivial⟩,⟨rfl,trivial⟩,rfl⟩
      ·show SV.v (AV.sl (eSs (zC (zAN t) out (m.take j))++[AV.lit (.string m[j])]))=SV.v (AV.sl (eSs (zC (zAN t) out (m.take (j+1)))));rw[zDA,htk]
      ·exact congrArg (fun n=>SV.v (AV.lit (Value.int .i64 n))) wj
    ·have hc:memb m[j] (zC (zAN t) out (m.take j))=true:=by simpa using hc
     rw[zIH (.inl hc)] at htk;refine⟨⟨j+1,h3⟩,(show m.length-(j+1)<m.length-j by omega),⟨rfl,?_,rfl,rfl,rfl,rfl,rfl,?_,trivial⟩,⟨rfl,trivial⟩,rfl⟩
     ·exact congrArg SV.v (skip htk)
     ·exact congrArg (fun n=>SV.v (AV.lit (Value.int .i64 n))) wj
   ·have h3:j=m.length:=by simp[hlm] at h3;omega
    subst h3;have e:zC (zAN t) out (m.take m.length)=zKL (zAN t) (t.args.take (k+1)):=by rw[List.take_length,z0L h,<-hout,<-hm]
    refine⟨⟨k+1,h⟩,(show t.args.length-(k+1)<t.args.length-k by omega),⟨rfl,?_,rfl,rfl,?_,trivial⟩,⟨rfl,trivial⟩,rfl⟩
    ·exact congrArg (fun l=>SV.v (AV.sl (eSs l))) e
    ·exact congrArg (fun n=>SV.v (AV.lit (Value.int .i64 n))) (wrap_succ (k:=k) (by omega))
  ·have h:k=t.args.length:=by simp[hlen] at h;omega
   subst h;rw[List.take_length];exact rfl
theorem zX0 {t:Tp}:∀a∈t.args,(fv a).length+dp a<=(fv t).length+dp t:=by
 cases t with
 | app a b =>
  intro x hx;simp only[Tp.args,List.mem_cons,List.not_mem_nil,or_false] at hx;have h1:(fv a).length<=(fv (.app a b)).length:=qV _ _ (zBW a) fun s hs=>mem_fv_app.2 (.inl hs);have h2:(fv b).length<=(fv (.app a b)).length:=qV _ _ (zBW b) fun s hs=>mem_fv_app.2 (.inr hs);simp only[dp];rcases hx with rfl|rfl<;>omega
 | all s a =>
  intro x hx;simp only[Tp.args,List.mem_cons,List.not_mem_nil,or_false] at hx;subst hx;have h1:(fv x).length<=(s::fv (.all s x)).length:=qV _ _ (zBW x) fun y hy=>by
   by_cases e:y=s
   ·rw[e];exact List.mem_cons_self
   ·exact List.mem_cons_of_mem _ (mem_fv_all.2 ⟨hy,e⟩)
  simp only[dp,List.length_cons] at h1⊢;omega
 | _=>simp[Tp.args]
theorem zS8 (N:Nat):∀t:Tp,t.sz<=N->(fv t).length+dp t<=1000000000->zF Tryz.prog zDW [eTy t] (.sl (eSs (fv t))):=by
 induction N with
 | zero=>intro t h;have:=zAF t;omega
 | succ N ih=>exact fun t h hb=>zWP t (by omega) (fun a ha=>by have:=zX0 a ha;omega) fun a ha=>ih a (z2Q h a ha) (by have:=zX0 a ha;omega)
structure FitX (K:Nat) (t:Tp) (ps:Env'):Prop where
 names:∃G:List ByteArray,G.length<=K/\(∀s∈fv t,s∈G)/\∀p∈ps,∀s∈fv p.2,s∈G
 room:K+2*dp t<2600
 many:ps.length+dp t<5000
 deep:∀p∈ps,dp p.2<1000000
theorem zMM {G:List ByteArray} {t:Tp} (h:∀s∈fv t,s∈G):(fv t).length<=G.length:=qV _ _ (zBW t) h
theorem zGB {G:List ByteArray} {K:Nat} (hG:G.length<=K):∀{ps:Env'},(∀p∈ps,∀s∈fv p.2,s∈G)->(caught ps).length<=K*ps.length
 | [],_=>by simp[caught]
 | p::r,h=>by
  have h1:=zGB hG (ps:=r) (fun q hq=>h q (by simp[hq]));have h2:=zMM (h p (by simp));have:caught (p::r)=fv p.2++caught r:=rfl;rw[this,List.length_append,List.length_cons,Nat.mul_succ];omega
theorem zb2 {G l:List ByteArray} (h:∀s∈l,s∈G):ff l<=G.length:=by
 have:=qV ((List.range (ff l)).map lett) G (List.pairwise_map.2 (List.Pairwise.imp (fun h e=>h (zR3 e)) (List.nodup_range))) (fun x hx=>by
  obtain⟨j,hj,rfl⟩:=List.mem_map.1 hx;exact h _ (zGV l j (List.mem_range.1 hj)))
 simpa using this
theorem z1E {G:List ByteArray} {ps:Env'} (h:∀p∈ps,∀s∈fv p.2,s∈G):∀s∈caught ps,s∈G:=fun s hs=>by
 obtain⟨p,hp,hs⟩:=List.mem_flatMap.1 hs;exact h p hp s hs
theorem FitX.app {K:Nat} {a b:Tp} {ps:Env'} (h:FitX K (.app a b) ps):FitX K a ps/\FitX K b ps:=by
 obtain⟨⟨G,g1,g2,g3⟩,h3,h4,h6⟩:=h;simp only[dp] at h3 h4;exact⟨⟨⟨G,g1,fun s hs=>g2 s (mem_fv_app.2 (.inl hs)),g3⟩,by omega,by omega,h6⟩,⟨⟨G,g1,fun s hs=>g2 s (mem_fv_app.2 (.inr hs)),g3⟩,by omega,by omega,h6⟩⟩
theorem FitX.all0 {K:Nat} {a:Tp} {s:ByteArray} {ps:Env'} (h:FitX K (.all s a) ps):FitX (K+1) a (kept s (fv a) ps):=by
 obtain⟨⟨G,g1,g2,g3⟩,h3,h4,h6⟩:=h;simp only[dp] at h3 h4;have:=zCD s (fv a) ps;refine⟨⟨s::G,by simp;omega,fun x hx=>?_,fun p hp x hx=>List.mem_cons_of_mem _ (g3 p (zA8 hp) x hx)⟩,by omega,by omega,fun p hp=>h6 p (zA8 hp)⟩;by_cases e:x=s
 ·rw[e];exact List.mem_cons_self
 ·exact List.mem_cons_of_mem _ (g2 x (mem_fv_all.2 ⟨hx,e⟩))
theorem FitX.all1 {K:Nat} {a:Tp} {s:ByteArray} {ps:Env'} (h:FitX K (.all s a) ps):ff (caught (kept s (fv a) ps)++fv a)<=K+1/\FitX (K+2) a (kept s (fv a) ps++[(s,.var (lett (ff (caught (kept s (fv a) ps)++fv a))))]):=by
 have h0:=h.all0;obtain⟨⟨G,g1,g2,g3⟩,q3,q4,q6⟩:=h0;have hff:ff (caught (kept s (fv a) ps)++fv a)<=K+1:=Nat.le_trans (zb2 (G:=G) fun x hx=>by
  rcases List.mem_append.1 hx with hx|hx
  ·exact z1E g3 x hx
  ·exact g2 x hx) g1
 refine⟨hff,?_⟩;obtain⟨_,h3,h4,h6⟩:=h;simp only[dp] at h3 h4;have:=zCD s (fv a) ps;generalize lett (ff (caught (kept s (fv a) ps)++fv a))=z;refine⟨⟨z::G,by simp;omega,fun x hx=>List.mem_cons_of_mem _ (g2 x hx),fun p hp x hx=>?_⟩,by omega,by simp;omega,fun p hp=>?_⟩
 ·rcases List.mem_append.1 hp with hp|hp
  ·exact List.mem_cons_of_mem _ (g3 p hp x hx)
  ·rw[List.mem_singleton.1 hp] at hx;simp[fv] at hx;rw[hx];exact List.mem_cons_self
 ·rcases List.mem_append.1 hp with hp|hp
  ·exact q6 p hp
  ·rw[List.mem_singleton.1 hp];simp[dp]
theorem z03 {K : Nat} {s : ByteArray} {a : Tp} {ps : Env'} (hf : FitX K (.all s a) ps) (ih : ∀ (K : Nat) (ps : Env'), FitX K a ps -> qB a ps) :
    zF Tryz.prog zOB [eTy (.all s a), .sl (eN ps), .sl (eB ps)] (eTy (sub (.all s a) ps)) := by
  have h0 := hf.all0;have h1 := hf.all1;obtain ⟨⟨G, g1, g2, g3⟩, hroom, hmany, hdeep⟩ := hf;simp only [dp] at hroom hmany;have hfl : (fv a).length <= K + 1 := by
    have := zMM (t := a) (G := s :: G) fun x hx => by
      by_cases e : x = s
      · rw [e]; exact List.mem_cons_self
      · exact List.mem_cons_of_mem _ (g2 x (mem_fv_all.2 ⟨hx, e⟩))
    simp at this; omega
  refine zD ttok mixed Tryz.func80 rfl (by rfl) (Nat.le_of_ble_eq_true rfl) (by kernel_rfl) ?_;refine ⟨_, by decide, rfl, rfl, ?_⟩;refine .inl ⟨_, zS8 a.sz a (Nat.le_refl _) (by omega), ?_⟩
  refine ⟨{k : Nat // k <= ps.length}, fun k => { vs := [(2, .v (.sl (eB ps))), (3, .box 0 (eTy (.all s a))), (6, .box 0 (eTy .no)), (7, .box 0 (eTy a)), (8, .v (.sl (eSs (fv a)))), (9, .v (.sl (eN (kept s (fv a) (ps.take k.1))))), (10, .v (.sl (eB (kept s (fv a) (ps.take k.1))))), (11, .v (.sl (eSs (caught (kept s (fv a) (ps.take k.1)))))),
      (21, .v (.sl (eN ps))), (22, .v (.lit (.int .i64 ((eN ps).length : Nat)))), (23, .v (.lit (.int .i64 (k.1 : Nat))))], ow := [(9, 0, 2), (10, 0, 5), (11, 0, 2)] },
    fun k => ps.length - k.1, ⟨0, Nat.zero_le _⟩, ⟨⟨rfl, rfl, rfl, rfl, rfl, rfl, rfl, rfl, rfl, rfl, rfl, trivial⟩, ⟨trivial, trivial, trivial, trivial⟩, rfl⟩, ?_⟩
  rintro ⟨k, hk⟩;have hkl : (kept s (fv a) (ps.take k)).length <= k := by
    have := zCD s (fv a) (ps.take k);simp at this; omega
  have hcl : (caught (kept s (fv a) (ps.take k))).length <= K * (kept s (fv a) (ps.take k)).length := zGB g1 fun p hp => g3 p (List.mem_of_mem_take (zA8 hp));have hK1 : K * (kept s (fv a) (ps.take k)).length <= 2600 * 5000 := Nat.mul_le_mul (by omega) (by omega);have wk' : k < ps.length -> IntKind.i64.wrap ((k : Int) + 1) = ((k + 1 : Nat) : Int) := fun _ => wrap_succ (by omega);refine ⟨fun h => ?_, fun h => ?_⟩
  · have h : k < ps.length := by simp [jV] at h; omega
    have wk' := wk' h;have ht := zPN (s := s) (own := fv a) h;refine ⟨_, by omega, zQW h, rfl, ?_⟩;refine ⟨fun h3 => ?_, fun h3 => ?_⟩
    · refine .inl ⟨_, xN (l := fv a) (s := ps[k].1) (by omega), ?_⟩
      refine ⟨fun h4 => ?_, fun h4 => ?_⟩
      · rw [if_pos (by
          have h5 : ¬ ps[k].1 = s := fun e => by
            have h3' : (!decide (ps[k].1 = s)) = true := h3;rw [decide_eq_true e] at h3'; cases h3'
          rw [h4, decide_eq_true (p := ps[k].1 ≠ s) h5]; rfl)] at ht
        refine ⟨by simp [jV]; omega, zZT _, yP [_], ?_⟩;refine ⟨_, by omega, zJM h, rfl, ?_⟩;refine ⟨by simp [zFC]; omega, zZ8 _, zN8 [_], ?_⟩;refine ⟨_, by omega, zJM h, rfl, ?_⟩;have hlt := hdeep _ (List.getElem_mem h);have hfk : (fv ps[k].2).length <= G.length := zMM (g3 _ (List.getElem_mem h));refine .inl ⟨_, zS8 ps[k].2.sz ps[k].2 (Nat.le_refl _) (by omega), ?_⟩;refine ⟨by simp [eSs]; omega, yP _, yP _, ?_⟩;refine ⟨⟨k + 1, h⟩, (show ps.length - (k + 1) < ps.length - k by omega), ⟨rfl, rfl, rfl, rfl, rfl, ?_, ?_, ?_, rfl, rfl, ?_, trivial⟩, ⟨rfl, rfl, rfl, trivial⟩, rfl⟩
        · rw [ht]; exact congrArg (fun l => SV.v (AV.sl l)) (zKR _ ps[k].1 ps[k].2)
        · rw [ht]; exact congrArg (fun l => SV.v (AV.sl l)) (zK1 _ ps[k].1 ps[k].2)
        · rw [ht, zKE]; exact congrArg (fun l => SV.v (AV.sl l)) (zQA _ _)
        · exact congrArg (fun n => SV.v (AV.lit (Value.int .i64 n))) wk'
      · rw [if_neg (by rw [h4]; simp), List.append_nil] at ht
        refine ⟨⟨k + 1, h⟩, (show ps.length - (k + 1) < ps.length - k by omega), ⟨rfl, rfl, rfl, rfl, rfl, ?_, ?_, ?_, rfl, rfl, ?_, trivial⟩, ⟨rfl, rfl, rfl, trivial⟩, rfl⟩
        · rw [ht]; rfl
        · rw [ht]; rfl
        · rw [ht]; rfl
        · exact congrArg (fun n => SV.v (AV.lit (Value.int .i64 n))) wk'
    · rw [if_neg (by
        have h5 : ps[k].1 = s := Classical.byContradiction fun e => by
          have h3' : (!decide (ps[k].1 = s)) = false := h3;rw [decide_eq_false e] at h3'; cases h3'
        rw [decide_eq_false (p := ps[k].1 ≠ s) (fun h => h h5)]; simp), List.append_nil] at ht
      refine ⟨⟨k + 1, h⟩, (show ps.length - (k + 1) < ps.length - k by omega), ⟨rfl, rfl, rfl, rfl, rfl, ?_, ?_, ?_, rfl, rfl, ?_, trivial⟩, ⟨rfl, rfl, rfl, trivial⟩, rfl⟩
      · rw [ht]; rfl
      · rw [ht]; rfl
      · rw [ht]; rfl
      · exact congrArg (fun n => SV.v (AV.lit (Value.int .i64 n))) wk'
  · have h : k = ps.length := by simp [jV] at h; omega
    subst h;simp only [List.take_length] at hkl hcl hK1 ⊢;obtain ⟨q, hq⟩ : ∃ q, q = kept s (fv a) ps := ⟨_, rfl⟩
    rw [<- hq] at hkl hcl hK1 h0 h1 ⊢;refine .inl ⟨_, xN (l := caught q) (s := s) (by omega), ?_⟩;refine ⟨fun h3 => ?_, fun h3 => ?_⟩
    · obtain ⟨z, hz⟩ : ∃ z, z = lett (ff (caught q ++ fv a)) := ⟨_, rfl⟩
      have es : sub (.all s a) ps = .all z (sub a (q ++ [(s, .var z)])) := by rw [sub, <- hq, if_pos h3, <- hz]
      rw [es];have hl := zUN (l := caught q ++ fv a) (by omega) (by simp; omega);rw [<- hz] at hl h1;rw [<- zQA] at hl;have hi := ih (K + 2) _ h1.2;unfold qB at hi;rw [<- zKR, <- zK1] at hi;refine ⟨by simp [eSs]; omega, yP _, yP _, ?_⟩;refine .inl ⟨_, hl, ?_⟩;refine ⟨by simp [jV]; omega, zZT _, yP [_], ?_⟩;refine .inl ⟨_, zGA z, ?_⟩;refine ⟨by simp [zFC]; omega, zZ8 _, zN8 [_], ?_⟩;refine .inl ⟨_, hi, ?_⟩;refine .inl ⟨_, zQU z _, ?_⟩;exact rfl
    · have es : sub (.all s a) ps = .all s (sub a q) := by rw [sub, <- hq, if_neg (by rw [h3]; simp)]
      rw [es];refine .inl ⟨_, ih (K + 1) q h0, ?_⟩;refine .inl ⟨_, zQU s _, ?_⟩;exact rfl
theorem zCZ (N:Nat):∀(t:Tp),t.sz<=N->∀(K:Nat) (ps:Env'),FitX K t ps->qB t ps:=by
 induction N with
 | zero=>intro t h;have:=zAF t;omega
 | succ N ih =>
  intro t h K ps hf;have fin:∀t:Tp,¬t.form=2->¬t.form=4->¬t.form=5->qB t ps:=fun t h2 h4 h5=>by
   have es:sub t ps=t:=by cases t<;>first|rfl|exact absurd rfl h2|exact absurd rfl h4|exact absurd rfl h5
   unfold qB;rw[es];refine zD ttok mixed Tryz.func43 rfl (by rfl) (Nat.le_of_ble_eq_true rfl) (by kernel_rfl) ?_;refine⟨fun h=>absurd (by simpa using h) h2,fun _=>?_⟩;refine⟨fun h=>absurd (by simpa using h) h4,fun _=>?_⟩;refine⟨fun h=>absurd (by simpa using h) h5,fun _=>?_⟩;refine .inl ⟨_,zBE t,?_⟩;exact rfl
  cases t with
  | no=>exact fin _ (by decide) (by decide) (by decide)
  | mt n=>exact fin _ (by simp[Tp.form]) (by simp[Tp.form]) (by simp[Tp.form])
  | con s=>exact fin _ (by simp[Tp.form]) (by simp[Tp.form]) (by simp[Tp.form])
  | var x =>
   refine zD ttok mixed Tryz.func43 rfl (by rfl) (Nat.le_of_ble_eq_true rfl) (by kernel_rfl) ?_;have hm:=hf.many;refine⟨fun _=>?_,fun h=>(by cases h)⟩;refine .inl ⟨_,zTN (l:=ps.map (fun p:ByteArray×Tp=>p.1)) (s:=x) (by simp;omega),?_⟩;rcases zKW (x:=x) (ps:=ps) with⟨h1,h2⟩|⟨k,hk,h1,h2⟩
   ·have es:sub (.var x) ps = .var x:=by simp[sub,h1]
    rw[es,zGD h2];refine⟨fun h=>(by cases h),fun _=>?_⟩;refine .inl ⟨_,zBE (.var x),?_⟩;exact rfl
   ·have es:sub (.var x) ps=ps[k].2:=by simp[sub,h2]
    rw[es,h1];refine⟨fun _=>?_,fun h=>(by simp at h)⟩;refine⟨_,by omega,zJM hk,rfl,?_⟩;refine .inl ⟨_,zBE _,?_⟩;exact rfl
  | app a b =>
   simp only[Tp.sz] at h;refine zD ttok mixed Tryz.func43 rfl (by rfl) (Nat.le_of_ble_eq_true rfl) (by kernel_rfl) ?_;refine⟨fun h=>(by cases h),fun _=>?_⟩;refine⟨fun _=>?_,fun h=>(by cases h)⟩;refine⟨_,by decide,rfl,rfl,?_⟩;refine .inl ⟨_,ih a (by omega) K ps hf.app.1,?_⟩;refine⟨_,by decide,rfl,rfl,?_⟩;refine .inl ⟨_,ih b (by omega) K ps hf.app.2,?_⟩;refine .inl ⟨_,zMV _ _,?_⟩;exact rfl
  | all s a =>
   simp only[Tp.sz] at h;refine zD ttok mixed Tryz.func43 rfl (by rfl) (Nat.le_of_ble_eq_true rfl) (by kernel_rfl) ?_;refine⟨fun h=>(by cases h),fun _=>?_⟩;refine⟨fun h=>(by cases h),fun _=>?_⟩;refine⟨fun _=>?_,fun h=>(by cases h)⟩;refine .inl ⟨_,z03 hf (fun K ps hf=>ih a (by omega) K ps hf),?_⟩;exact rfl
theorem zVG (n:Nat) (hn:n<=100000):CallsG Tryz.prog (fnv 148) [] [.nil,.lit (.int .i64 (n:Nat))] [] fun r o h=>r = .sl []/\o=6/\h=[]:=by
 have w0:IntKind.i64.wrap ((n:Int)-IntKind.i64.wrap (0-(([]:List AV).length:Nat)))=(n:Int):=by
  rw[show IntKind.i64.wrap (0-(([]:List AV).length:Nat))=0 from rfl,Int.sub_zero];exact yH (by omega)
 refine CallsG.opened (esz:=5) (zNJ (os:=[6]) ttok mixed Tryz.func148 rfl (by rfl) (fun i sz h=>?_) (Nat.le_of_ble_eq_true rfl) (by kernel_rfl) (post:=z6M 5) ?_) (fun r o h hp=>hp)
 ·match i with
  | 0=>rfl
  | i+1=>simp at h
 refine⟨fun h=>?_,fun _=>?_⟩
 ·have h:=of_decide_eq_true h;omega
 refine⟨fun h=>?_,fun h=>?_⟩
 ·have h:=of_decide_eq_true h;rw[w0] at h;refine .inl ⟨rfl,rfl,?_⟩;refine⟨n,w0,by omega,by omega,fun b cap zs h1 h2=>?_⟩;refine⟨by decide,by decide,by exact_mod_cast Nat.zero_le _,?_⟩;refine .inr ⟨rfl,b,cap,zs,?_,rfl,by omega⟩;have e:∀A B:Option Addr,A=some ⟨b,0,none⟩->B=some ⟨b,0,none⟩->AV.lit (.slice (if cap=0 then A else B) 0 cap) = .lit (.slice (some ⟨b,0,none⟩) 0 cap):=fun A B hA hB=>by rw[hA,hB];split<;>rfl
  exact e _ _ rfl rfl
 ·exact .inl ⟨rfl,rfl,rfl⟩
theorem zQO (ls:List (List AV)) (hn:ls.length<10000) (hu:∀l∈ls,Uni 5 l) (ht:ls.flatten.length<=100000):zF Tryz.prog 137 [.sl (ls.map AV.sl)] (.sl ls.flatten):=by
 refine zG ttok mixed Tryz.func137 rfl (by rfl) (Nat.le_of_ble_eq_true rfl) (by kernel_rfl) ?_;have hml:(ls.map AV.sl).length=ls.length:=by simp
 refine⟨{k:Nat // k<=ls.length},fun k=>{vs:=[(0,.v (.sl (ls.map AV.sl))),(3,sv ((ls.take k.1).flatten.length:Nat)),(9,.v (.sl (ls.map AV.sl))),(10,sv (ls.length:Nat)),(11,sv (k.1:Nat))]},
  fun k=>ls.length-k.1,⟨0,Nat.zero_le _⟩,⟨⟨rfl,rfl,rfl,svc (by rw[hml]),rfl,trivial⟩,trivial,rfl⟩,?_⟩
 rintro⟨k,hk⟩;refine⟨fun h=>?_,fun h=>?_⟩
 ·have h:k<ls.length:=by have h:=of_decide_eq_true h;simp only at h;omega
  have hfl:=zL7 h;have hle:=zMO ls (k+1);refine⟨.sl ls[k],by omega,zeE (f:=AV.sl) h,rfl,?_⟩;have w1:IntKind.i64.wrap (((ls.take k).flatten.length:Nat)+(ls[k].length:Nat))=((ls.take (k+1)).flatten.length:Nat):=by
   rw[hfl,List.length_append,<-Int.natCast_add];exact yH (by rw[hfl,List.length_append] at hle;omega)
  refine⟨fun h2=>?_,fun _=>?_⟩
  ·have h2:=of_decide_eq_true h2;simp only[w1] at h2;omega
  exact⟨⟨k+1,h⟩,by simp;omega,⟨rfl,svc w1,rfl,rfl,svc (wrap_succ (k:=k) (by omega)),trivial⟩,trivial,rfl⟩
 ·have h:k=ls.length:=by have h:=of_decide_eq_false h;simp only at h;omega
  subst h;have hg:=zVG ls.flatten.length ht;rw[show ls.flatten.length=(ls.take ls.length).flatten.length by rw[List.take_length]] at hg;refine .inr (.inr (.inr (.inr (.inr (.inl ⟨[],[],[],_,rfl,List.nodup_nil,rfl,hg,?_⟩)))));rintro r w hout ⟨rfl,rfl,rfl⟩;refine⟨{k:Nat // k<=ls.length},fun k=>{vs:=[(6,.v (.sl (ls.take k.1).flatten)),(25,.v (.sl (ls.map AV.sl))),(26,sv (ls.length:Nat)),(27,sv (k.1:Nat))],ow:=[(6,0,6)]},
   fun k=>ls.length-k.1,⟨0,Nat.zero_le _⟩,⟨⟨rfl,rfl,svc (by rw[hml]),rfl,trivial⟩,⟨rfl,trivial⟩,rfl⟩,?_⟩
  rintro⟨k,hk⟩;refine⟨fun h=>?_,fun h=>?_⟩
  ·have h:k<ls.length:=by have h:=of_decide_eq_true h;simp only at h;omega
   have hfl:=zL7 h;have hle:=zMO ls (k+1);refine⟨.sl ls[k],by omega,zeE (f:=AV.sl) h,rfl,?_⟩;refine⟨by rw[hfl,List.length_append] at hle;simp only;omega,zZ4 hu k,hu _ (List.getElem_mem h),?_⟩;refine⟨⟨k+1,h⟩,by simp;omega,⟨?_,rfl,rfl,svc (wrap_succ (k:=k) (by omega)),trivial⟩,⟨rfl,trivial⟩,rfl⟩;show _=SV.v (AV.sl (ls.take (k+1)).flatten);rw[hfl];rfl
  ·have h:k=ls.length:=by have h:=of_decide_eq_false h;simp only at h;omega
   subst h;show AV.sl (ls.take ls.length).flatten=_;rw[List.take_length]
structure Fd where
 nm:ByteArray
 tag:Int
 many:Int
 ar:Int
 t:Tp
abbrev Nm2:=ByteArray×Tp
def eFd (f:Fd):AV := .agg [.lit (.string f.nm),.lit (.int .i64 f.tag),.lit (.int .i64 f.many),.lit (.int .i64 f.ar),.lit (.int .i64 f.t.form),.lit (.int .i64 f.t.num),.lit (.string f.t.nam),.sl f.t.eArgs]
def eNa (x:Nm2):AV := .agg [.lit (.string x.1),.lit (.int .i64 x.2.form),.lit (.int .i64 x.2.num),.lit (.string x.2.nam),.sl x.2.eArgs]
def zEW (l:List Fd):List AV:=l.map eFd
def xW (l:List Nm2):List AV:=l.map eNa
structure Wd where
 fs:List Fd
 env:List Nm2
 ps:Env'
 deep:Nat
def eW (w:Wd):AV := .agg [.sl (zEW w.fs),.sl (xW w.env),.sl (eN w.ps),.sl (eB w.ps),.lit (.int .i64 (w.deep:Nat))]
theorem zBG (l:List Nm2):Uni 5 (xW l):=fun a ha=>by obtain⟨x,_,rfl⟩:=List.mem_map.1 ha;rfl
def Wd.more (w:Wd) (l:List Nm2):Wd:={w with env:=w.env++l}
theorem zG2 (w:Wd) (l:List Nm2) (h:w.env.length+l.length<=100000):zF Tryz.prog 105 [eW w,.sl (xW l)] (eW (w.more l)):=by
 have hc:=zQO [xW w.env,xW l] (by simp) (fun m hm=>by
  rcases List.mem_cons.1 hm with rfl|hm
  ·exact zBG _
  ·rw[List.mem_singleton.1 hm];exact zBG _) (by simp[xW];omega)
 rw[show [xW w.env,xW l].flatten=xW (w.env++l) by simp[xW]] at hc;refine zG ttok mixed Tryz.func105 rfl (by rfl) (Nat.le_of_ble_eq_true rfl) (by kernel_rfl) ?_;refine .inl ⟨_,hc,?_⟩;exact rfl
noncomputable def Wd.mean (w:Wd) (t:Tp):Tp:=sub t w.ps
theorem qJ (w:Wd) (t:Tp) {K:Nat} (hf:FitX K t w.ps):zF Tryz.prog 106 [eW w,eTy t] (eTy (w.mean t)):=by
 refine zG ttok mixed Tryz.func106 rfl (by rfl) (Nat.le_of_ble_eq_true rfl) (by kernel_rfl) ?_;refine .inl ⟨_,zCZ t.sz t (Nat.le_refl _) K w.ps hf,?_⟩;exact rfl
theorem zPP (w:Wd) (c:Cr):zF Tryz.prog 118 [eW w,eC c] (eTy (.con ⟨#[73,110,116]⟩)):=by
 refine zG ttok mixed Tryz.func118 rfl (by rfl) (Nat.le_of_ble_eq_true rfl) (by kernel_rfl) ?_;refine .inl ⟨_,zAT _,?_⟩;exact rfl
theorem zXK (w:Wd) (c:Cr) {K:Nat} (hf:FitX K c.t w.ps):zF Tryz.prog 126 [eW w,eC c] (eTy (w.mean c.t)):=by
 refine zG ttok mixed Tryz.func126 rfl (by rfl) (Nat.le_of_ble_eq_true rfl) (by kernel_rfl) ?_;refine .inl ⟨_,qJ w c.t hf,?_⟩;exact rfl
end Go.Proofs.YtdmbahepaglcbaaGreatDoor
