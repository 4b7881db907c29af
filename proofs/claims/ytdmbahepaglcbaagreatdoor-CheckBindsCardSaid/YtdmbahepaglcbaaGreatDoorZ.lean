/- CoreMakes: what the law asks is so. No condition but that what is given is Go's. -/
import Derived.Test.YtdmbahepaglcbaaGreatDoorY
import Derived.Test.YtdmbahepaglcbaaGreatDoorX
import Derived.Test.YtdmbahepaglcbaaGreatDoorW
set_option linter.unusedSimpArgs false
set_option linter.unusedVariables false
namespace Go.Proofs.YtdmbahepaglcbaaGreatDoor
open Go Fp
set_option maxRecDepth 10000
set_option maxHeartbeats 16000000
set_option linter.unusedVariables false
section
variable {c d:Cr} {r:Bool} (hll:c.kids.length=d.kids.length/\c.binds.length=d.binds.length/\c.alts.length=d.alts.length) (hl:c.kids.length<1000000/\c.binds.length<1000000/\c.alts.length<1000000)
include hll hl
end
abbrev Gr:=Option (Nat×Nat×List AV)
def slG (x:Gr) (k:Nat):Value:=match x with
 | none => .slice none 0 0
 | some (b,cap,_) => .slice (some ⟨b,0,none⟩) k cap
theorem smb_db0 {a b:Tp}:smb a b [] []=true↔db a []=db b []:=zNK a b [] [] rfl
theorem zQT:∀{a b:Tp} {e e':List ByteArray},db a e=db b e'->a.sz=b.sz
 | .no,b,e,e',h=>by cases b<;>simp[db] at h<;>first|rfl|(split at h<;>simp at h)
 | .mt n,b,e,e',h=>by cases b<;>simp[db] at h<;>first|rfl|(split at h<;>simp at h)
 | .con s,b,e,e',h=>by cases b<;>simp[db] at h<;>first|rfl|(split at h<;>simp at h)
 | .var s,b,e,e',h=>by
  cases b with
  | var u=>rfl
  | _=>simp only[db] at h;split at h<;>simp at h
 | .app x y,b,e,e',h=>by
  cases b with
  | app u v=>simp only[db,Db.app.injEq] at h;simp only[Tp.sz,zQT h.1,zQT h.2]
  | var u=>simp only[db] at h;split at h<;>simp at h
  | _=>simp[db] at h
 | .all s x,b,e,e',h=>by
  cases b with
  | all u v=>simp only[db,Db.all.injEq] at h;simp only[Tp.sz,zQT h]
  | var u=>simp only[db] at h;split at h<;>simp at h
  | _=>simp[db] at h
theorem zJJ:∀{a b:Tp} {e e':List ByteArray},db a e=db b e'->NmX b->NmX a
 | .no,b,e,e',h,hb=>by
  cases b with
  | no=>exact hb
  | var u=>simp only[db] at h;split at h<;>simp at h
  | _=>simp[db] at h
 | .mt n,b,e,e',h,hb=>by
  cases b with
  | mt m=>simp only[db,Db.mt.injEq] at h;rw[h];exact hb
  | var u=>simp only[db] at h;split at h<;>simp at h
  | _=>simp[db] at h
 | .con s,b,e,e',h,hb=>trivial
 | .var s,b,e,e',h,hb=>trivial
 | .app x y,b,e,e',h,hb=>by
  cases b with
  | app u v=>simp only[db,Db.app.injEq] at h;exact⟨zJJ h.1 hb.1,zJJ h.2 hb.2⟩
  | var u=>simp only[db] at h;split at h<;>simp at h
  | _=>simp[db] at h
 | .all s x,b,e,e',h,hb=>by
  cases b with
  | all u v=>simp only[db,Db.all.injEq] at h;exact zJJ (a:=x) (b:=v) h hb
  | var u=>simp only[db] at h;split at h<;>simp at h
  | _=>simp[db] at h
theorem z1C {a b c:Tp} {K:Nat} (ha:db a []=db c []) (hb:db b []=db c []) (hc:TkX c) (hs:Shn K c) (hz:c.sz<=700) (hK:K<=1000000000000):zC Tryz.prog zL [eTy a,eTy b] (.sb true):=by
 have ea:nl a []=nl c []:=zJZ (by rw[zD4,zD4];exact congrArg ser ha);have eb:nl b []=nl c []:=zJZ (by rw[zD4,zD4];exact congrArg ser hb);have z1:=zQT ha;have z2:=zQT hb;have h1:=zR8 c [] hc hs (by simp;omega);have m1:(K+20)*c.sz<=1000000000020*700:=Nat.mul_le_mul (by omega) hz;have d1:=zAM a;have d2:=zAM b;have h:=zMD (zJJ ha hc.nm) (zJJ hb hc.nm) (by omega) (by omega) (by rw[ea];omega) (by rw[eb];omega);rw[decide_eq_true (ea.trans eb.symm)] at h;exact h
theorem zHM (w:Wd) (s:ByteArray) (t:Tp) (hl:w.env.length<=100000):zC Tryz.prog 108 [eW w,.lit (.string s),eTy t] (eW (w.more [(s,t)])):=by
 have hln:=zUB w.env;refine zA ttok mixed Tryz.func108 rfl (by rfl) (Nat.le_of_ble_eq_true rfl) (by kernel_rfl) ?_;refine⟨by simp[hln];omega,zRB _,zMF _,?_⟩;refine⟨by simp[hln];omega,by simpa using zMF w.env,zEQ rfl,?_⟩;unfold eW Wd.more;rw[zPL];exact rfl
theorem zBF (w:Wd) (t:Tp) {K:Nat} (hf:FitX K t w.ps):zC Tryz.prog 109 [eW w,eTy t] (eTy (w.mean t)):=by
 refine zA ttok mixed Tryz.func109 rfl (by rfl) (Nat.le_of_ble_eq_true rfl) (by kernel_rfl) ?_;refine .inl ⟨_,zFC t.sz t (Nat.le_refl _) K w.ps hf,?_⟩;exact rfl
def nK (k:Nat):Nat:=if k=4∨k=10 then 2 else if k=5∨k=6∨k=7∨k=8∨k=9 then 1 else 0
theorem xX (k:Nat) (h1:1<=k) (h2:k<=11):zC Tryz.prog 110 [.lit (.int .i64 (k:Nat))] (.lit (.int .i64 (nK k:Nat))):=by
 have hw:IntKind.i64.wrap ((k:Int)-1)=((k-1:Nat):Int):=by rw[wrap_in (by unfold InR;omega)];omega
 refine zA ttok mixed Tryz.func110 rfl (by rfl) (Nat.le_of_ble_eq_true rfl) (by kernel_rfl) ?_;refine⟨fun h=>?_,fun h=>absurd (of_decide_eq_true h) (by omega)⟩;refine⟨fun h=>absurd (of_decide_eq_true h) (by omega),fun h=>?_⟩;have hat:([.lit (.int .i64 0),.lit (.int .i64 0),.lit (.int .i64 0),.lit (.int .i64 2),.lit (.int .i64 1),.lit (.int .i64 1),.lit (.int .i64 1),.lit (.int .i64 1),.lit (.int .i64 1),.lit (.int .i64 2),.lit (.int .i64 0)]:List AV)[(IntKind.i64.wrap ((k:Int)-1)).toNat]? = some (.lit (.int .i64 (nK k:Nat))):=by
  rw[hw]
  match k,h1,h2 with
  | 1,_,_=>rfl
  | 2,_,_=>rfl
  | 3,_,_=>rfl
  | 4,_,_=>rfl
  | 5,_,_=>rfl
  | 6,_,_=>rfl
  | 7,_,_=>rfl
  | 8,_,_=>rfl
  | 9,_,_=>rfl
  | 10,_,_=>rfl
  | 11,_,_=>rfl
  | n+12,_,h=>omega
 refine⟨_,by rw[hw];omega,hat,rfl,?_⟩;exact rfl
theorem zJW {w:Wd} {s:ByteArray} (hl:w.fs.length<=1000000):(∀f,wO w.fs s=some f->zC Tryz.prog 111 [eW w,.lit (.string s)] (.tup [eFd f,.sb true]))/\(wO w.fs s=none->zC Tryz.prog 111 [eW w,.lit (.string s)] (.tup [eFd ⟨.empty,0,0,0,.no⟩,.sb false])):=by
 have hln:(qL w.fs).length=w.fs.length:=by simp[qL]
 have main:∀r:AV,(∀k (hk:k<w.fs.length),(∀j (hj:j<w.fs.length),j<k->w.fs[j].nm≠s)->w.fs[k].nm=s->r = .tup [eFd w.fs[k],.sb true])->((∀j (hj:j<w.fs.length),w.fs[j].nm≠s)->r = .tup [eFd ⟨.empty,0,0,0,.no⟩,.sb false])->zC Tryz.prog 111 [eW w,.lit (.string s)] r:=by
  intro r hy hn;refine zA ttok mixed Tryz.func111 rfl (by rfl) (Nat.le_of_ble_eq_true rfl) (by kernel_rfl) ?_;refine⟨{k:Nat // k<=w.fs.length/\∀j (hj:j<w.fs.length),j<k->w.fs[j].nm≠s},fun k=>{vs:=[(1,.v (str s)),(2,.box 0 (eW w)),(4,.box 0 (eFd ⟨.empty,0,0,0,.no⟩)),(6,sv (k.1:Nat))]},fun k=>w.fs.length-k.1,⟨0,Nat.zero_le _,fun j hj h=>by omega⟩,⟨⟨rfl,rfl,rfl,rfl,trivial⟩,trivial,rfl⟩,?_⟩;rintro⟨k,hk,hinv⟩;refine⟨fun h=>?_,fun h=>?_⟩
  ·have h:k<w.fs.length:=by have h:=of_decide_eq_true h;rw[hln] at h;simp only at h;omega
   have hat:(qL w.fs)[k]? = some (eFd w.fs[k]):=by simp[qL,h]
   refine⟨_,by omega,hat,rfl,?_⟩;refine⟨fun h2=>?_,fun h2=>?_⟩
   ·have h2:w.fs[k].nm=s:=of_decide_eq_true h2;rw[hy k h hinv h2];refine⟨_,by omega,hat,rfl,?_⟩;exact rfl
   ·have h2:¬w.fs[k].nm=s:=of_decide_eq_false h2;refine⟨⟨k+1,h,fun j hj hjk=>?_⟩,by simp;omega,⟨rfl,rfl,rfl,svc (wrap_succ (k:=k) (by omega)),trivial⟩,trivial,rfl⟩;by_cases e:j=k
    ·subst e;exact h2
    ·exact hinv j hj (by omega)
  ·have h:k=w.fs.length:=by have h:=of_decide_eq_false h;rw[hln] at h;simp only at h;omega
   rw[hn fun j hj=>hinv j hj (by omega)];exact rfl
 refine⟨fun f hf=>main _ (fun k hk h1 h2=>?_) (fun h=>?_),fun hf=>main _ (fun k hk h1 h2=>?_) (fun h=>rfl)⟩
 ·have e:wO w.fs s=some w.fs[k]:=List.find?_eq_some_iff_getElem.2 ⟨decide_eq_true h2,k,hk,rfl,fun j hj=>by simpa using h1 j (by omega) hj⟩;rw[e] at hf;cases hf;rfl
 ·have hm:=List.mem_of_find?_eq_some hf;obtain⟨j,hj,rfl⟩:=List.getElem_of_mem hm;exact absurd (of_decide_eq_true (List.find?_some (p:=fun f:Fd=>decide (f.nm=s)) hf)) (h j hj)
 ·have:=List.find?_eq_none.1 hf w.fs[k] (List.getElem_mem hk);exact absurd (decide_eq_true h2) this
abbrev OfR (w:Wd) (c:Cr) (t:Tp) (b:Bool):Prop:=zC Tryz.prog 69 [eW w,eC c] (.tup [eTy t,.sb b])
theorem z0O {w:Wd} {n:Int} {s:ByteArray} {t0:Tp}:OfR w (.node 3 n s t0 .nil) (.con yE) true:=by
 have hk:=xX 3 (by decide) (by decide);refine zA ttok mixed Tryz.func69 rfl (by rfl) (Nat.le_of_ble_eq_true rfl) (by kernel_rfl) ?_;refine .inl ⟨_,hk,?_⟩;refine⟨by kernel_rfl,?_⟩;refine⟨fun h=>Bool.noConfusion (show false=true from h),fun _=>?_⟩;refine⟨fun h=>Bool.noConfusion (show false=true from h),fun _=>?_⟩;refine⟨fun h=>Bool.noConfusion (show false=true from h),fun _=>?_⟩;refine⟨fun _=>?_,fun h=>Bool.noConfusion (show true=false from h)⟩;refine .inl ⟨_,yG yE,?_⟩;exact rfl
theorem zXX {w:Wd} {n:Int} {s:ByteArray} {t:Tp} {K:Nat} (hf:FitX K t w.ps):OfR w (.node 11 n s t .nil) (w.mean t) true:=by
 have hk:=xX 11 (by decide) (by decide);refine zA ttok mixed Tryz.func69 rfl (by rfl) (Nat.le_of_ble_eq_true rfl) (by kernel_rfl) ?_;refine .inl ⟨_,hk,?_⟩;refine⟨by kernel_rfl,?_⟩;refine⟨fun h=>Bool.noConfusion (show false=true from h),fun _=>?_⟩;refine⟨fun h=>Bool.noConfusion (show false=true from h),fun _=>?_⟩;refine⟨fun h=>Bool.noConfusion (show false=true from h),fun _=>?_⟩;refine⟨fun h=>Bool.noConfusion (show false=true from h),fun _=>?_⟩;refine⟨fun h=>Bool.noConfusion (show false=true from h),fun _=>?_⟩;refine⟨fun h=>Bool.noConfusion (show false=true from h),fun _=>?_⟩;refine⟨fun h=>Bool.noConfusion (show false=true from h),fun _=>?_⟩;refine⟨fun h=>Bool.noConfusion (show false=true from h),fun _=>?_⟩;refine⟨fun h=>Bool.noConfusion (show false=true from h),fun _=>?_⟩;refine⟨fun h=>Bool.noConfusion (show false=true from h),fun _=>?_⟩;refine⟨fun h=>Bool.noConfusion (show false=true from h),fun _=>?_⟩;refine .inl ⟨_,zBF w t hf,?_⟩;exact rfl
theorem z2N {w:Wd} {n:Int} {s:ByteArray} {t0:Tp} {f:Fd} (hl:w.fs.length<=1000000) (h:wO w.fs s=some f):OfR w (.node 2 n s t0 .nil) f.t true:=by
 have hk:=xX 2 (by decide) (by decide);refine zA ttok mixed Tryz.func69 rfl (by rfl) (Nat.le_of_ble_eq_true rfl) (by kernel_rfl) ?_;refine .inl ⟨_,hk,?_⟩;refine⟨by kernel_rfl,?_⟩;refine⟨fun h=>Bool.noConfusion (show false=true from h),fun _=>?_⟩;refine⟨fun h=>Bool.noConfusion (show false=true from h),fun _=>?_⟩;refine⟨fun _=>?_,fun h=>Bool.noConfusion (show true=false from h)⟩;refine .inl ⟨_,(zJW hl).1 f h,?_⟩;exact rfl
theorem z0G {w:Wd} {n:Int} {s:ByteArray} {t0 t:Tp} {p q:Cr} {b:Bool} (h:zC Tryz.prog 112 [eW w,eC (.node 4 n s t0 (.kid p (.kid q .nil)))] (.tup [eTy t,.sb b])):OfR w (.node 4 n s t0 (.kid p (.kid q .nil))) t b:=by
 have hk:=xX 4 (by decide) (by decide);refine zA ttok mixed Tryz.func69 rfl (by rfl) (Nat.le_of_ble_eq_true rfl) (by kernel_rfl) ?_;refine .inl ⟨_,hk,?_⟩;refine⟨by kernel_rfl,?_⟩;refine⟨fun h=>Bool.noConfusion (show false=true from h),fun _=>?_⟩;refine⟨fun h=>Bool.noConfusion (show false=true from h),fun _=>?_⟩;refine⟨fun h=>Bool.noConfusion (show false=true from h),fun _=>?_⟩;refine⟨fun h=>Bool.noConfusion (show false=true from h),fun _=>?_⟩;refine⟨fun _=>?_,fun h=>Bool.noConfusion (show true=false from h)⟩;refine .inl ⟨_,h,?_⟩;exact rfl
theorem zX7 {w:Wd} {n:Int} {s:ByteArray} {t0 t:Tp} {p q:Cr} {b:Bool} (h:zC Tryz.prog 115 [eW w,eC (.node 10 n s t0 (.kid p (.kid q .nil)))] (.tup [eTy t,.sb b])):OfR w (.node 10 n s t0 (.kid p (.kid q .nil))) t b:=by
 have hk:=xX 10 (by decide) (by decide);refine zA ttok mixed Tryz.func69 rfl (by rfl) (Nat.le_of_ble_eq_true rfl) (by kernel_rfl) ?_;refine .inl ⟨_,hk,?_⟩;refine⟨by kernel_rfl,?_⟩;refine⟨fun h=>Bool.noConfusion (show false=true from h),fun _=>?_⟩;refine⟨fun h=>Bool.noConfusion (show false=true from h),fun _=>?_⟩;refine⟨fun h=>Bool.noConfusion (show false=true from h),fun _=>?_⟩;refine⟨fun h=>Bool.noConfusion (show false=true from h),fun _=>?_⟩;refine⟨fun h=>Bool.noConfusion (show false=true from h),fun _=>?_⟩;refine⟨fun h=>Bool.noConfusion (show false=true from h),fun _=>?_⟩;refine⟨fun h=>Bool.noConfusion (show false=true from h),fun _=>?_⟩;refine⟨fun h=>Bool.noConfusion (show false=true from h),fun _=>?_⟩;refine⟨fun h=>Bool.noConfusion (show false=true from h),fun _=>?_⟩;refine⟨fun h=>Bool.noConfusion (show false=true from h),fun _=>?_⟩;refine⟨fun _=>?_,fun h=>Bool.noConfusion (show true=false from h)⟩;refine .inl ⟨_,h,?_⟩;exact rfl
theorem zYC {w:Wd} {n:Int} {s:ByteArray} {t0 t:Tp} {p:Cr} {b:Bool} (h:zC Tryz.prog 113 [eW w,eC (.node 7 n s t0 (.kid p .nil))] (.tup [eTy t,.sb b])):OfR w (.node 7 n s t0 (.kid p .nil)) t b:=by
 have hk:=xX 7 (by decide) (by decide);refine zA ttok mixed Tryz.func69 rfl (by rfl) (Nat.le_of_ble_eq_true rfl) (by kernel_rfl) ?_;refine .inl ⟨_,hk,?_⟩;refine⟨by kernel_rfl,?_⟩;refine⟨fun h=>Bool.noConfusion (show false=true from h),fun _=>?_⟩;refine⟨fun h=>Bool.noConfusion (show false=true from h),fun _=>?_⟩;refine⟨fun h=>Bool.noConfusion (show false=true from h),fun _=>?_⟩;refine⟨fun h=>Bool.noConfusion (show false=true from h),fun _=>?_⟩;refine⟨fun h=>Bool.noConfusion (show false=true from h),fun _=>?_⟩;refine⟨fun h=>Bool.noConfusion (show false=true from h),fun _=>?_⟩;refine⟨fun h=>Bool.noConfusion (show false=true from h),fun _=>?_⟩;refine⟨fun _=>?_,fun h=>Bool.noConfusion (show true=false from h)⟩;refine .inl ⟨_,h,?_⟩;exact rfl
theorem z0Y {w:Wd} {n:Int} {s:ByteArray} {t u:Tp} {p:Cr} {K:Nat} {b:Bool} (hf:FitX K t w.ps) (hl:w.env.length<=100000) (h:OfR (w.more [(s,w.mean t)]) p u b):OfR w (.node 5 n s t (.kid p .nil)) (fnT (w.mean t) u) b:=by
 have hk:=xX 5 (by decide) (by decide);refine zA ttok mixed Tryz.func69 rfl (by rfl) (Nat.le_of_ble_eq_true rfl) (by kernel_rfl) ?_;refine .inl ⟨_,hk,?_⟩;refine⟨by kernel_rfl,?_⟩;refine⟨fun h=>Bool.noConfusion (show false=true from h),fun _=>?_⟩;refine⟨fun h=>Bool.noConfusion (show false=true from h),fun _=>?_⟩;refine⟨fun h=>Bool.noConfusion (show false=true from h),fun _=>?_⟩;refine⟨fun h=>Bool.noConfusion (show false=true from h),fun _=>?_⟩;refine⟨fun h=>Bool.noConfusion (show false=true from h),fun _=>?_⟩;refine⟨fun _=>?_,fun h=>Bool.noConfusion (show true=false from h)⟩;refine .inl ⟨_,zBF w t hf,?_⟩;refine .inl ⟨_,zHM w s (w.mean t) hl,?_⟩;refine⟨_,by decide,rfl,rfl,?_⟩;refine .inl ⟨_,h,?_⟩;refine⟨by kernel_rfl,?_⟩;refine .inl ⟨_,xI (w.mean t) u,?_⟩;exact rfl
theorem zZE {w:Wd} {n:Int} {s x:ByteArray} {t a:Tp} {p:Cr} {K L:Nat} (hf:FitX K t w.ps) (h:OfR w p (.all x a) true) (hs:FitX L a [(x,w.mean t)]):OfR w (.node 6 n s t (.kid p .nil)) (sub a [(x,w.mean t)]) true:=by
 have hsub:zC Tryz.prog zA8 [eTy a,.sl [str x],.sl [eTy (w.mean t)]] (eTy (sub a [(x,w.mean t)])):=zFC a.sz a (Nat.le_refl _) L _ hs;have hk:=xX 6 (by decide) (by decide);refine zA ttok mixed Tryz.func69 rfl (by rfl) (Nat.le_of_ble_eq_true rfl) (by kernel_rfl) ?_;refine .inl ⟨_,hk,?_⟩;refine⟨by kernel_rfl,?_⟩;refine⟨fun h=>Bool.noConfusion (show false=true from h),fun _=>?_⟩;refine⟨fun h=>Bool.noConfusion (show false=true from h),fun _=>?_⟩;refine⟨fun h=>Bool.noConfusion (show false=true from h),fun _=>?_⟩;refine⟨fun h=>Bool.noConfusion (show false=true from h),fun _=>?_⟩;refine⟨fun h=>Bool.noConfusion (show false=true from h),fun _=>?_⟩;refine⟨fun h=>Bool.noConfusion (show false=true from h),fun _=>?_⟩;refine⟨fun _=>?_,fun h=>Bool.noConfusion (show true=false from h)⟩;refine⟨_,by decide,rfl,rfl,?_⟩;refine .inl ⟨_,h,?_⟩;refine⟨by kernel_rfl,?_⟩;refine⟨fun _=>?_,fun h=>Bool.noConfusion (show false=true from h)⟩;refine⟨fun h=>Bool.noConfusion (show false=true from h),fun _=>?_⟩;refine⟨_,by decide,rfl,rfl,?_⟩;refine .inl ⟨_,zBF w t hf,?_⟩;refine .inl ⟨_,hsub,?_⟩;refine⟨by kernel_rfl,?_⟩;exact rfl
theorem z15 {w w':Wd} {n:Int} {s:ByteArray} {t0 t:Tp} {p:Cr} {x:ByteArray} {tb:Tp} {q:Cr} {b:Bool} (h1:zC Tryz.prog 66 [eW w,.sl (zN [(x,tb,q)])] (.tup [eW w',.sb true])) (h:OfR w' p t b):OfR w (.node 8 n s t0 (.kid p (.bind x tb q .nil))) t b:=by
 have hk:=xX 8 (by decide) (by decide);refine zA ttok mixed Tryz.func69 rfl (by rfl) (Nat.le_of_ble_eq_true rfl) (by kernel_rfl) ?_;refine .inl ⟨_,hk,?_⟩;refine⟨by kernel_rfl,?_⟩;refine⟨fun h=>Bool.noConfusion (show false=true from h),fun _=>?_⟩;refine⟨fun h=>Bool.noConfusion (show false=true from h),fun _=>?_⟩;refine⟨fun h=>Bool.noConfusion (show false=true from h),fun _=>?_⟩;refine⟨fun h=>Bool.noConfusion (show false=true from h),fun _=>?_⟩;refine⟨fun h=>Bool.noConfusion (show false=true from h),fun _=>?_⟩;refine⟨fun h=>Bool.noConfusion (show false=true from h),fun _=>?_⟩;refine⟨fun h=>Bool.noConfusion (show false=true from h),fun _=>?_⟩;refine⟨fun h=>Bool.noConfusion (show false=true from h),fun _=>?_⟩;refine⟨fun _=>?_,fun h=>Bool.noConfusion (show true=false from h)⟩;refine .inl ⟨_,h1,?_⟩;refine⟨fun h=>Bool.noConfusion (show false=true from h),fun _=>?_⟩;refine⟨_,by decide,rfl,rfl,?_⟩;refine .inl ⟨_,h,?_⟩;refine⟨by kernel_rfl,?_⟩;exact rfl
theorem zYG {w:Wd} {n:Int} {s:ByteArray} {t u:Tp} {p g:Cr} {K:Nat} {b:Bool} (hf:FitX K t w.ps) (hg:g.kids=[]) (h:OfR w p u true) (h2:zC Tryz.prog 114 [eW w,eC (.node 9 n s t (.kid p g)),eTy u] (.sb b)):OfR w (.node 9 n s t (.kid p g)) (w.mean t) b:=by
 have hg0:g.e3 0=[]:=by rw[zRI,hg];rfl
 have hlen:((Cr.node 9 n s t (.kid p g)).e3 0)=[eC p]:=by show eC p::g.e3 0=_;rw[hg0]
 have hk:=xX 9 (by decide) (by decide);refine zA ttok mixed Tryz.func69 rfl (by rfl) (Nat.le_of_ble_eq_true rfl) (by kernel_rfl) ?_;refine .inl ⟨_,hk,?_⟩;refine⟨by kernel_rfl,?_⟩;refine⟨fun h=>absurd h (by rw[hlen];simp[nK]),fun _=>?_⟩;refine⟨fun h=>Bool.noConfusion (show false=true from h),fun _=>?_⟩;refine⟨fun h=>Bool.noConfusion (show false=true from h),fun _=>?_⟩;refine⟨fun h=>Bool.noConfusion (show false=true from h),fun _=>?_⟩;refine⟨fun h=>Bool.noConfusion (show false=true from h),fun _=>?_⟩;refine⟨fun h=>Bool.noConfusion (show false=true from h),fun _=>?_⟩;refine⟨fun h=>Bool.noConfusion (show false=true from h),fun _=>?_⟩;refine⟨fun h=>Bool.noConfusion (show false=true from h),fun _=>?_⟩;refine⟨fun h=>Bool.noConfusion (show false=true from h),fun _=>?_⟩;refine⟨fun _=>?_,fun h=>Bool.noConfusion (show true=false from h)⟩;refine⟨_,by decide,rfl,rfl,?_⟩;refine .inl ⟨_,h,?_⟩;refine⟨by kernel_rfl,?_⟩;refine .inl ⟨_,zBF w t hf,?_⟩;refine⟨fun _=>?_,fun h=>Bool.noConfusion (show true=false from h)⟩;refine .inl ⟨_,h2,?_⟩;exact rfl
theorem zKZ {a b:Tp} (ha:Gs a) (hb:Gs b):zC Tryz.prog zL [eTy a,eTy b] (.sb (smb a b [] [])):=zG2 ha.2.1 hb.2.1 ha.2.2 hb.2.2 (by have:=ha.1;omega) (by have:=hb.1;omega) (by decide)
theorem zZN {w:Wd} {n:Int} {s:ByteArray} {t0 u u' t:Tp} {p q:Cr} (h1:OfR w p (fnT u t) true) (h2:OfR w q u' true) (h:zC Tryz.prog zL [eTy u,eTy u'] (.sb true)):zC Tryz.prog 112 [eW w,eC (.node 4 n s t0 (.kid p (.kid q .nil)))] (.tup [eTy t,.sb true]):=by
 refine zA ttok mixed Tryz.func112 rfl (by rfl) (Nat.le_of_ble_eq_true rfl) (by kernel_rfl) ?_;refine⟨_,by decide,rfl,rfl,?_⟩;refine .inl ⟨_,h1,?_⟩;refine⟨by kernel_rfl,?_⟩;refine⟨_,by decide,rfl,rfl,?_⟩;refine .inl ⟨_,h2,?_⟩;refine⟨by kernel_rfl,?_⟩;refine⟨fun _=>?_,fun h=>Bool.noConfusion (show false=true from h)⟩;refine⟨fun _=>?_,fun h=>Bool.noConfusion (show false=true from h)⟩;refine .inl ⟨_,yU (fnT u t),?_⟩;refine⟨fun _=>?_,fun h=>Bool.noConfusion (show false=true from h)⟩;refine⟨_,by decide,rfl,rfl,?_⟩;refine⟨_,by decide,rfl,rfl,?_⟩;refine .inl ⟨_,h,?_⟩;refine⟨by kernel_rfl,?_⟩;refine⟨fun h=>Bool.noConfusion (show false=true from h),fun _=>?_⟩;refine⟨_,by decide,rfl,rfl,?_⟩;exact rfl
theorem z2T {s:ByteArray} {r:Tp} (h:zC8 s=some r):(s∈[zXD,zYH,zYR,zZ3]/\r = .con yE)∨(s∉[zXD,zYH,zYR,zZ3]/\(s=sEq∨s=sLt)/\r = .con yC):=by
 unfold zC8 at h;split at h
 ·rename_i q;cases h;exact .inl ⟨by simpa using q,rfl⟩
 ·rename_i q;split at h
  ·rename_i q2;cases h;exact .inr ⟨by simpa using q,q2,rfl⟩
  ·cases h
theorem zVU {w:Wd} {n:Int} {s:ByteArray} {t0 u v r:Tp} {p q:Cr} (h1:OfR w p u true) (h2:OfR w q v true) (hu:zC Tryz.prog zL [eTy u,eTy (.con yE)] (.sb true)) (hv:zC Tryz.prog zL [eTy v,eTy (.con yE)] (.sb true)) (hr:zC8 s=some r):zC Tryz.prog 115 [eW w,eC (.node 10 n s t0 (.kid p (.kid q .nil)))] (.tup [eTy r,.sb true]):=by
 have hh:=zCR (l:=[zXD,zYH,zYR,zZ3]) (s:=s) (by decide);refine zA ttok mixed Tryz.func115 rfl (by rfl) (Nat.le_of_ble_eq_true rfl) (by kernel_rfl) ?_;refine⟨{k:Nat // k<=2},fun k=>{vs:=[(2,.box 0 (eW w)),(3,.box 0 (eC (.node 10 n s t0 (.kid p (.kid q .nil))))),(4,.box 0 (eTy .no)),(6,sv (k.1:Nat))]},fun k=>2-k.1,⟨0,by decide⟩,⟨⟨rfl,rfl,rfl,rfl,trivial⟩,trivial,rfl⟩,?_⟩;rintro⟨k,hk⟩;refine⟨fun h=>?_,fun h=>?_⟩
 ·have h:k<2:=by have h:=of_decide_eq_true h;simp only at h;omega
  obtain⟨x,t,hx,hs,hat⟩:∃x t,OfR w x t true/\zC Tryz.prog zL [eTy t,eTy (.con yE)] (.sb true)/\[eC p,eC q][((k:Nat):Int).toNat]? = some (eC x):=by
   match k,h with
   | 0,_=>exact⟨p,u,h1,hu,rfl⟩
   | 1,_=>exact⟨q,v,h2,hv,rfl⟩
  refine⟨_,by omega,hat,rfl,?_⟩;refine .inl ⟨_,hx,?_⟩;refine⟨by kernel_rfl,?_⟩;refine⟨fun _=>?_,fun h=>Bool.noConfusion (show false=true from h)⟩;refine .inl ⟨_,yG yE,?_⟩;refine .inl ⟨_,hs,?_⟩;refine⟨by kernel_rfl,?_⟩;refine⟨fun h=>Bool.noConfusion (show false=true from h),fun _=>?_⟩;exact⟨⟨k+1,h⟩,by simp;omega,⟨rfl,rfl,rfl,svc (wrap_succ (k:=k) (by omega)),trivial⟩,trivial,rfl⟩
 ·refine .inl ⟨_,hh,?_⟩;rcases z2T hr with⟨hm,rfl⟩|⟨hm,hs,rfl⟩
  ·refine⟨fun _=>?_,fun h=>absurd (show memb s _=false from h) (by rw[yV hm];decide)⟩;refine .inl ⟨_,yG yE,?_⟩;exact rfl
  ·refine⟨fun h=>absurd (show memb s _=true from h) (by rw[qA hm];decide),fun _=>?_⟩;refine .inl ⟨_,yG yC,?_⟩;refine⟨fun h3=>?_,fun h3=>?_⟩
   ·have h3:¬s=sEq:=of_decide_eq_false h3;have h4:s=sLt:=hs.elim (fun e=>absurd e h3) id;refine⟨by kernel_rfl,?_⟩;subst h4;exact rfl
   ·refine⟨by kernel_rfl,?_⟩;exact rfl
def zFP (d:Nat):ByteArray:=⟨#[35]⟩++dcm d
theorem ownR_ok:zQM zFP:=by
 refine⟨fun i j h=>?_,fun i h=>?_,fun k hk=>⟨by unfold zFP;exact zGL (by decide) (zDM k),?_⟩⟩
 ·have h:=congrArg by' h
  unfold zFP at h;rw[jW,jW] at h;exact zIV (List.append_cancel_left h)
 ·have h:=congrArg (fun b=>(by' b)[0]?) h;unfold zFP at h;simp[jW,by',sb9] at h
 ·have:=wJ 2 k (by omega) (by decide);unfold zFP;rw[ByteArray.size_append];show 1+_<=10;omega
theorem zWF {w:Wd} {n:Int} {s:ByteArray} {t0 t:Tp} {p:Cr} {b:Bool} (hl:w.ps.length<=100000) (hd:w.deep<100) (hq:OfR (w.all s (zFP w.deep)) p t b):zC Tryz.prog 113 [eW w,eC (.node 7 n s t0 (.kid p .nil))] (.tup [eTy (.all (zFP w.deep) t),.sb b]):=by
 have hw:IntKind.i64.wrap ((w.deep:Nat)+1)=((w.deep+1:Nat):Int):=wrap_succ (k:=w.deep) (by omega);have hdec:=zCM w.deep w.deep (Nat.le_refl _) (by omega);have hds:=wJ 2 w.deep (by omega) (by decide);have ho:=ownR_ok.wd w.deep hd;refine zA ttok mixed Tryz.func113 rfl (by rfl) (Nat.le_of_ble_eq_true rfl) (by kernel_rfl) ?_;refine .inl ⟨_,hdec,?_⟩;refine⟨by show 1+(dcm w.deep).size<=_;omega,?_⟩;refine⟨{k:Nat // k<=w.ps.length},fun k=>{vs:=[(2,.box 0 (eW w)),(3,.box 0 (eC (.node 7 n s t0 (.kid p .nil)))),(4,.box 0 (eTy .no)),(6,.v (.lit (.string (zFP w.deep)))),(7,.box 0 (.agg [.sl (qL w.fs),.sl (yZ w.env),.sl (eN (wZ s (w.ps.take k.1))),.sl (eB (wZ s (w.ps.take k.1))),.lit (.int .i64 ((w.deep+1:Nat):Int))])),(8,sv (k.1:Nat))],ow:=[(7,2,2),(7,3,5)]},
  fun k=>w.ps.length-k.1,⟨0,Nat.zero_le _⟩,?_,?_⟩
 ·refine⟨⟨rfl,rfl,rfl,rfl,?_,rfl,trivial⟩,⟨trivial,trivial,trivial⟩,rfl⟩;rw[<-hw];exact rfl
 rintro⟨k,hk⟩;have hle:=zUR s (w.ps.take k);have hlt:(w.ps.take k).length<=w.ps.length:=by rw[List.length_take];omega
 refine⟨fun h=>?_,fun h=>?_⟩
 ·have h:k<w.ps.length:=by have h:=of_decide_eq_true h;rw[zE7] at h;simp only at h;omega
  have hup:=zM5 (s:=s) h;refine⟨_,by omega,zZB h,rfl,?_⟩;refine⟨by kernel_rfl,?_⟩;refine⟨fun h2=>?_,fun h2=>?_⟩
  ·have h2:¬w.ps[k].1=s:=by have h2:=h2;simp at h2;exact h2
   rw[if_neg h2] at hup;refine⟨_,by omega,zZB h,rfl,?_⟩;refine⟨by show (eN (wZ s (w.ps.take k))).length+1<=_;rw[zE7];omega,zOS _,zEQ rfl,?_⟩;refine⟨by kernel_rfl,?_⟩;refine⟨_,by omega,z3C h,rfl,?_⟩;refine⟨by show (eB (wZ s (w.ps.take k))).length+1<=_;rw[zNI];omega,zP1 _,zDE [_],?_⟩;refine⟨by kernel_rfl,?_⟩;refine⟨⟨k+1,h⟩,by simp;omega,⟨rfl,rfl,rfl,rfl,?_,svc (wrap_succ (k:=k) (by omega)),trivial⟩,⟨rfl,rfl,trivial⟩,rfl⟩;rw[hup,zN7,zOG];exact rfl
  ·have h2:w.ps[k].1=s:=by have h2:=h2;simp at h2;exact h2
   rw[if_pos h2,List.append_nil] at hup;refine⟨⟨k+1,h⟩,by simp;omega,⟨rfl,rfl,rfl,rfl,?_,svc (wrap_succ (k:=k) (by omega)),trivial⟩,⟨rfl,rfl,trivial⟩,rfl⟩;rw[hup];exact rfl
 ·have hkk:k=w.ps.length:=by have h:=of_decide_eq_false h;rw[zE7] at h;simp only at h;omega
  subst hkk;rw[List.take_length] at hle;refine⟨by show (eN (wZ s (w.ps.take w.ps.length))).length+1<=_;rw[zE7,List.take_length];omega,zOS _,zEQ rfl,?_⟩;refine⟨by show (eB (wZ s (w.ps.take w.ps.length))).length+1<=_;rw[zNI,List.take_length];omega,zP1 _,zDE [.var (zFP w.deep)],?_⟩;have hc:zC Tryz.prog 69 [.agg [.sl (qL w.fs),.sl (yZ w.env),.sl (eN (wZ s (w.ps.take w.ps.length))++[.lit (.string s)]),.sl (eB (wZ s (w.ps.take w.ps.length))++[eTy (.var (zFP w.deep))]),.lit (.int .i64 ((w.deep+1:Nat):Int))],eC p] (.tup [eTy t,.sb b]):=by
   have e:AV.agg [.sl (qL w.fs),.sl (yZ w.env),.sl (eN (wZ s (w.ps.take w.ps.length))++[.lit (.string s)]),.sl (eB (wZ s (w.ps.take w.ps.length))++[eTy (.var (zFP w.deep))]),.lit (.int .i64 ((w.deep+1:Nat):Int))]=eW (w.all s (zFP w.deep)):=by
    rw[List.take_length];unfold Wd.all eW;simp only[];rw[zN7,zOG];rfl
   rw[e];exact hq
  refine⟨_,by decide,rfl,rfl,?_⟩;refine .inl ⟨_,hc,?_⟩;refine⟨by kernel_rfl,?_⟩;exact rfl
def shR (f:Fd):AV:=match xQ f with
 | some (l,n,vs) => .tup [.sl (zO l),.lit (.string n),.sl (eSs vs),.sb true]
 | none => .tup [.sl [],.lit (.string .empty),.sl [],.sb false]
theorem zVM {t:Tp} (h:zIB t=true):∃g x y,t = .app (.app g x) y/\partsOf t=(x,y,true):=by
 have hp:=zID t;rw[h] at hp;cases t with
 | app a y =>
  cases a with
  | app g x =>
   refine⟨g,x,y,rfl,?_⟩;unfold partsOf at hp⊢;simp only at hp⊢;split at hp
   ·rename_i q;rw[if_pos q]
   ·cases hp
  | _=>cases h
 | _=>cases h
theorem zU5 {f:Fd} (hd:f.t.sz<100000) (ha:f.ar<=1000000):zC Tryz.prog 150 [eFd f] (shR f):=by
 obtain⟨r,hr⟩:∃r,r=shR f:=⟨_,rfl⟩
 rw[<-hr];have hd2:=zAM f.t;have hA0:zBC f.t []=none->r = .tup [.sl [],.lit (.string .empty),.sl [],.sb false]:=fun h=>by rw[hr];unfold shR xQ;rw[h]
 refine zA ttok mixed Tryz.func150 rfl (by rfl) (Nat.le_of_ble_eq_true rfl) (by kernel_rfl) ?_;refine⟨St1 f,fun p=>{vs:=[(1,.box 0 (eFd f)),(6,.box 0 (eTy p.1.2)),(7,.v (.sl (eSs p.1.1)))],ow:=[(7,0,2)]},fun p=>p.1.2.sz,⟨([],f.t),rfl,by simp⟩,⟨⟨rfl,rfl,rfl,trivial⟩,⟨trivial,trivial⟩,rfl⟩,?_⟩;rintro⟨⟨ws,cur⟩,hp,hlen⟩;simp only at hp hlen;refine⟨fun h=>?_,fun h=>?_⟩
 ·obtain⟨s,a,rfl⟩:=Tp.is_all (t:=cur) (by simpa using h);simp only[dp] at hlen;refine .inl ⟨_,zCR (l:=ws) (s:=s) (by omega),?_⟩;refine⟨fun h2=>?_,fun h2=>?_⟩
  ·have hm:s∈ws:=memb_iff.1 h2;rw[zBH,if_pos hm] at hp;rw[hA0 hp.symm];exact rfl
  ·have hns:s∉ws:=fun hm=>by have h2:memb s ws=false:=h2;rw[yV hm] at h2;cases h2
   rw[zBH,if_neg hns] at hp;refine⟨by simp[eSs];omega,wG _,wG [_],?_⟩;refine⟨eTy a,by omega,rfl,rfl,?_⟩;exact⟨⟨(ws++[s],a),hp,by simp;omega⟩,by simp only[Tp.sz];omega,⟨rfl,rfl,congrArg (fun l=>SV.v (AV.sl l)) (zFX ws s),trivial⟩,⟨rfl,trivial⟩,rfl⟩
 have h5:¬cur.form=5:=by simpa using h
 rw[zMO h5] at hp;have hA:zBC f.t []=some (ws,cur):=hp.symm;clear h h5 hp hA0;have hF0:wC f.ar.toNat cur=none->r = .tup [.sl [],.lit (.string .empty),.sl [],.sb false]:=fun h=>by rw[hr];unfold shR xQ;rw[hA];simp only[h]
 refine⟨St2 f cur,fun p=>{vs:=[(1,.box 0 (eFd f)),(6,.box 0 (eTy p.1.2)),(7,.v (.sl (eSs ws))),(8,.v (.sl (zO p.1.1))),(9,sv (p.1.1.length:Nat))],ow:=[(8,0,5)]},fun p=>f.ar.toNat-p.1.1.length,⟨([],cur),by simp,by simp⟩,⟨⟨rfl,rfl,rfl,rfl,rfl,trivial⟩,⟨trivial,trivial⟩,rfl⟩,?_⟩;rintro⟨⟨ls,t⟩,hp1,hp2⟩;simp only at hp1 hp2;refine⟨fun h=>?_,fun h=>?_⟩
 ·have h:ls.length<f.ar.toNat:=by have h:=of_decide_eq_true h;simp only at h;omega
  rw[show f.ar.toNat-ls.length=(f.ar.toNat-(ls.length+1))+1 by omega] at hp2;refine .inl ⟨_,yU t,?_⟩;refine⟨fun h2=>?_,fun h2=>?_⟩
  ·have h2:zIB t=false:=by simpa using h2
   have hf:¬(partsOf t).2.2=true:=by rw[zID,h2];decide
   simp only[wC,if_neg hf,Option.map_none] at hp2;rw[hF0 hp2.symm];exact rfl
  ·have h2:zIB t=true:=by simpa using h2
   obtain⟨g,x,y,rfl,hpt⟩:=zVM h2;rw[wC,hpt] at hp2;simp only[if_true,Option.map_map] at hp2;refine⟨_,by decide,rfl,rfl,?_⟩;refine⟨_,by decide,rfl,rfl,?_⟩;refine⟨by simp[zO];omega,zDE _,zDE [x],?_⟩;refine⟨_,by decide,rfl,rfl,?_⟩;refine⟨⟨(ls++[x],y),by simp;omega,?_⟩,by simp;omega,⟨rfl,rfl,rfl,?_,?_,trivial⟩,⟨rfl,trivial⟩,rfl⟩
   ·rw[<-hp2];simp only[List.length_append,List.length_cons,List.length_nil,Nat.zero_add]
    congr 1
    funext q
    simp
   ·show _=SV.v (AV.sl (zO (ls++[x])));rw[show zO (ls++[x])=zO ls++[eTy x] by simp[zO]];exact rfl
   ·simp only[List.length_append,List.length_cons,List.length_nil,Nat.zero_add];exact svc (wrap_succ (k:=ls.length) (by omega))
 have h:ls.length=f.ar.toNat:=by have h:=of_decide_eq_false h;simp only at h;omega
 rw[h,Nat.sub_self] at hp2;simp only[wC,Option.map_some,List.append_nil] at hp2;have hF:wC f.ar.toNat cur=some (ls,t):=hp2.symm;clear hF0 hp2;have hz1:=zHW _ _ _ _ hA;have hz2:=zEE _ _ _ _ hF;have hsl:=zF5 t;have hsp:=yY t (by omega);have hlr:(zO (zS t).reverse).length=(zS t).length:=by simp[zO]
 have hlw:(eSs ws).length=ws.length:=zCY ws;have hno:¬((jC t).form=3/\(zS t).reverse=ws.map Tp.var)->r = .tup [.sl [],.lit (.string .empty),.sl [],.sb false]:=fun h=>by rw[hr];unfold shR xQ;rw[hA];simp only[hF];rw[if_neg h]
 have hyes:(jC t).form=3->(zS t).reverse=ws.map Tp.var->r = .tup [.sl (zO ls),.lit (.string (jC t).nam),.sl (eSs ws),.sb true]:=fun h1 h2=>by rw[hr];unfold shR xQ;rw[hA];simp only[hF];rw[if_pos ⟨h1,h2⟩]
 have hwl:ws.length<=1000000:=by omega
 clear hr hA hF hz1 hz2;refine .inl ⟨_,hsp,?_⟩;refine⟨fun h3=>?_,fun h3=>?_⟩
 ·have h3:(jC t).form=3:=by simpa using h3
  refine⟨fun h4=>?_,fun h4=>?_⟩
  ·have h4:(zS t).length≠ws.length:=by rw[hlr,hlw] at h4;have h4:=h4;simp at h4;omega
   rw[hno fun q=>h4 (by have:=congrArg List.length q.2;simpa using this)];exact rfl
  ·have h4:(zS t).length=ws.length:=by rw[hlr,hlw] at h4;have h4:=h4;simp at h4;omega
   refine⟨{k:Nat // k<=ws.length/\∀j (h1:j<(zS t).reverse.length) (h2:j<ws.length),j<k->(zS t).reverse[j] = .var ws[j]},fun k=>{vs:=[(7,.v (.sl (eSs ws))),(8,.v (.sl (zO ls))),(10,.box 0 (eTy (jC t))),(11,.v (.sl (zO (zS t).reverse))),(12,sv (k.1:Nat))]},fun k=>ws.length-k.1,⟨0,Nat.zero_le _,fun j _ _ h=>by omega⟩,⟨⟨rfl,rfl,rfl,rfl,rfl,trivial⟩,trivial,rfl⟩,?_⟩;rintro⟨k,hk,hinv⟩;refine⟨fun h=>?_,fun h=>?_⟩
   ·have h:k<ws.length:=by have h:=of_decide_eq_true h;rw[hlr] at h;simp only at h;omega
    have hk2:k<(zS t).reverse.length:=by simp;omega
    have hat:(zO (zS t).reverse)[k]? = some (eTy (zS t).reverse[k]):=by simp only[zO,List.getElem?_map,List.getElem?_eq_getElem hk2,Option.map_some]
    have hne:(zS t).reverse[k]≠.var ws[k]->r = .tup [.sl [],.lit (.string .empty),.sl [],.sb false]:=fun q=>hno fun q2=>q (by
     have e:(zS t).reverse[k]? = some (.var ws[k]):=by rw[q2.2,List.getElem?_map,List.getElem?_eq_getElem h];rfl
     rw[List.getElem?_eq_getElem hk2] at e;exact Option.some.inj e)
    refine⟨_,by omega,hat,rfl,?_⟩;refine⟨fun h5=>?_,fun h5=>?_⟩
    ·have h5:(zS t).reverse[k].form=2:=by simpa using h5
     refine⟨_,by omega,hat,rfl,?_⟩;refine⟨_,by omega,zIG h,rfl,?_⟩;refine⟨by kernel_rfl,?_⟩;refine⟨fun h6=>?_,fun h6=>?_⟩
     ·have h6:(zS t).reverse[k].nam≠ws[k]:=by simpa using h6
      rw[hne fun q=>h6 (by rw[q];rfl)];exact rfl
     ·have h6:(zS t).reverse[k].nam=ws[k]:=by have h6:=h6;simpa using h6
      refine⟨⟨k+1,h,fun j g1 g2 g3=>?_⟩,by simp;omega,⟨rfl,rfl,rfl,rfl,svc (wrap_succ (k:=k) (by omega)),trivial⟩,trivial,rfl⟩;by_cases e:j=k
      ·subst e;exact isVarP.1 ⟨h5,h6⟩
      ·exact hinv j g1 g2 (by omega)
    ·have h5:¬(zS t).reverse[k].form=2:=by simpa using h5
     refine⟨by kernel_rfl,?_⟩;rw[hne fun q=>h5 (by rw[q];rfl)];exact rfl
   ·have h:k=ws.length:=by have h:=of_decide_eq_false h;rw[hlr] at h;simp only at h;omega
    refine⟨by kernel_rfl,?_⟩;have hall:(zS t).reverse=ws.map Tp.var:=by
     refine List.ext_getElem (by simp;omega) fun j g1 g2=>?_;have g3:j<ws.length:=by simpa using g2
     rw[List.getElem_map];exact hinv j g1 g3 (by omega)
    rw[hyes h3 hall];exact rfl
 ·have h3:¬(jC t).form=3:=by simpa using h3
  rw[hno fun q=>h3 q.1];exact rfl
end Go.Proofs.YtdmbahepaglcbaaGreatDoor
