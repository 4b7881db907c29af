/- CoreMakes: what the law asks is so. No condition but that what is given is Go's. -/
import Derived.Test.YtdmbahepaglcbaaGreatDoorY
import Derived.Test.YtdmbahepaglcbaaGreatDoorX
import Derived.Test.YtdmbahepaglcbaaGreatDoorW
set_option linter.unusedSimpArgs false
set_option linter.unusedVariables false
namespace Go.Proofs.YtdmbahepaglcbaaGreatDoor
open Go Fp
set_option maxRecDepth 10000
set_option maxHeartbeats 16000000
set_option linter.unusedVariables false
section
variable {c d:Cr} {r:Bool} (hll:c.kids.length=d.kids.length/\c.binds.length=d.binds.length/\c.alts.length=d.alts.length) (hl:c.kids.length<1000000/\c.binds.length<1000000/\c.alts.length<1000000)
include hll hl
end
theorem zOS:∀{a b:Tp} {e e':List ByteArray},db a e=db b e'->a.sz=b.sz
 | .no,b,e,e',h=>by cases b<;>simp[db] at h<;>first|rfl|(split at h<;>simp at h)
 | .mt n,b,e,e',h=>by cases b<;>simp[db] at h<;>first|rfl|(split at h<;>simp at h)
 | .con s,b,e,e',h=>by cases b<;>simp[db] at h<;>first|rfl|(split at h<;>simp at h)
 | .var s,b,e,e',h=>by
  cases b with
  | var u=>rfl
  | _=>simp only[db] at h;split at h<;>simp at h
 | .app x y,b,e,e',h=>by
  cases b with
  | app u v=>simp only[db,Db.app.injEq] at h;simp only[Tp.sz,zOS h.1,zOS h.2]
  | var u=>simp only[db] at h;split at h<;>simp at h
  | _=>simp[db] at h
 | .all s x,b,e,e',h=>by
  cases b with
  | all u v=>simp only[db,Db.all.injEq] at h;simp only[Tp.sz,zOS h]
  | var u=>simp only[db] at h;split at h<;>simp at h
  | _=>simp[db] at h
theorem zHT:∀{a b:Tp} {e e':List ByteArray},db a e=db b e'->NmX b->NmX a
 | .no,b,e,e',h,hb=>by
  cases b with
  | no=>exact hb
  | var u=>simp only[db] at h;split at h<;>simp at h
  | _=>simp[db] at h
 | .mt n,b,e,e',h,hb=>by
  cases b with
  | mt m=>simp only[db,Db.mt.injEq] at h;rw[h];exact hb
  | var u=>simp only[db] at h;split at h<;>simp at h
  | _=>simp[db] at h
 | .con s,b,e,e',h,hb=>trivial
 | .var s,b,e,e',h,hb=>trivial
 | .app x y,b,e,e',h,hb=>by
  cases b with
  | app u v=>simp only[db,Db.app.injEq] at h;exact⟨zHT h.1 hb.1,zHT h.2 hb.2⟩
  | var u=>simp only[db] at h;split at h<;>simp at h
  | _=>simp[db] at h
 | .all s x,b,e,e',h,hb=>by
  cases b with
  | all u v=>simp only[db,Db.all.injEq] at h;exact zHT (a:=x) (b:=v) h hb
  | var u=>simp only[db] at h;split at h<;>simp at h
  | _=>simp[db] at h
theorem zSF {a b c:Tp} {K:Nat} (ha:db a []=db c []) (hb:db b []=db c []) (hc:TkX c) (hs:Shn K c) (hz:c.sz<=700) (hK:K<=1000000000000):zC Tryz.prog yL [eTy a,eTy b] (.sb true):=by
 have ea:nl a []=nl c []:=zIW (by rw[zB9,zB9];exact congrArg ser ha);have eb:nl b []=nl c []:=zIW (by rw[zB9,zB9];exact congrArg ser hb);have z1:=zOS ha;have z2:=zOS hb;have h1:=zQ8 c [] hc hs (by simp;omega);have m1:(K+20)*c.sz<=1000000000020*700:=Nat.mul_le_mul (by omega) hz;have d1:=jJ a;have d2:=jJ b;have h:=zLD (zHT ha hc.nm) (zHT hb hc.nm) (by omega) (by omega) (by rw[ea];omega) (by rw[eb];omega);rw[decide_eq_true (ea.trans eb.symm)] at h;exact h
theorem zSV (w:Wd) (s:ByteArray) (t:Tp) (hl:w.env.length<=100000):zC Tryz.prog 108 [eW w,.lit (.string s),eTy t] (eW (w.more [(s,t)])):=by
 have hln:=z0C w.env;refine zB ttok mixed Tryz.func108 rfl (by rfl) (Nat.le_of_ble_eq_true rfl) (by kernel_rfl) ?_;refine⟨by simp[hln];omega,zXS _,zSJ _,?_⟩;refine⟨by simp[hln];omega,by simpa using zSJ w.env,zFR rfl,?_⟩;unfold eW Wd.more;rw[zWZ];exact rfl
theorem zJM (w:Wd) (t:Tp) {K:Nat} (hf:FitX K t w.ps):zC Tryz.prog 109 [eW w,eTy t] (eTy (w.mean t)):=by
 refine zB ttok mixed Tryz.func109 rfl (by rfl) (Nat.le_of_ble_eq_true rfl) (by kernel_rfl) ?_;refine .inl ⟨_,zJC t.sz t (Nat.le_refl _) K w.ps hf,?_⟩;exact rfl
def nK (k:Nat):Nat:=if k=4∨k=10 then 2 else if k=5∨k=6∨k=7∨k=8∨k=9 then 1 else 0
theorem zCY (k:Nat) (h1:1<=k) (h2:k<=11):zC Tryz.prog 110 [.lit (.int .i64 (k:Nat))] (.lit (.int .i64 (nK k:Nat))):=by
 have hw:IntKind.i64.wrap ((k:Int)-1)=((k-1:Nat):Int):=by rw[wrap_in (by unfold InR;omega)];omega
 refine zB ttok mixed Tryz.func110 rfl (by rfl) (Nat.le_of_ble_eq_true rfl) (by kernel_rfl) ?_;refine⟨fun h=>?_,fun h=>absurd (of_decide_eq_true h) (by omega)⟩;refine⟨fun h=>absurd (of_decide_eq_true h) (by omega),fun h=>?_⟩;have hat:([.lit (.int .i64 0),.lit (.int .i64 0),.lit (.int .i64 0),.lit (.int .i64 2),.lit (.int .i64 1),.lit (.int .i64 1),.lit (.int .i64 1),.lit (.int .i64 1),.lit (.int .i64 1),.lit (.int .i64 2),.lit (.int .i64 0)]:List AV)[(IntKind.i64.wrap ((k:Int)-1)).toNat]? = some (.lit (.int .i64 (nK k:Nat))):=by
  rw[hw]
  match k,h1,h2 with
  | 1,_,_=>rfl
  | 2,_,_=>rfl
  | 3,_,_=>rfl
  | 4,_,_=>rfl
  | 5,_,_=>rfl
  | 6,_,_=>rfl
  | 7,_,_=>rfl
  | 8,_,_=>rfl
  | 9,_,_=>rfl
  | 10,_,_=>rfl
  | 11,_,_=>rfl
  | n+12,_,h=>omega
 refine⟨_,by rw[hw];omega,hat,rfl,?_⟩;exact rfl
theorem zDY {w:Wd} {s:ByteArray} (hl:w.fs.length<=1000000):(∀f,wB w.fs s=some f->zC Tryz.prog 111 [eW w,.lit (.string s)] (.tup [eFd f,.sb true]))/\(wB w.fs s=none->zC Tryz.prog 111 [eW w,.lit (.string s)] (.tup [eFd ⟨.empty,0,0,0,.no⟩,.sb false])):=by
 have hln:(zA8 w.fs).length=w.fs.length:=by simp[zA8]
 have main:∀r:AV,(∀k (hk:k<w.fs.length),(∀j (hj:j<w.fs.length),j<k->w.fs[j].nm≠s)->w.fs[k].nm=s->r = .tup [eFd w.fs[k],.sb true])->((∀j (hj:j<w.fs.length),w.fs[j].nm≠s)->r = .tup [eFd ⟨.empty,0,0,0,.no⟩,.sb false])->zC Tryz.prog 111 [eW w,.lit (.string s)] r:=by
  intro r hy hn;refine zB ttok mixed Tryz.func111 rfl (by rfl) (Nat.le_of_ble_eq_true rfl) (by kernel_rfl) ?_;refine⟨{k:Nat // k<=w.fs.length/\∀j (hj:j<w.fs.length),j<k->w.fs[j].nm≠s},fun k=>{vs:=[(1,.v (str s)),(2,.box 0 (eW w)),(4,.box 0 (eFd ⟨.empty,0,0,0,.no⟩)),(6,sv (k.1:Nat))]},fun k=>w.fs.length-k.1,⟨0,Nat.zero_le _,fun j hj h=>by omega⟩,⟨⟨rfl,rfl,rfl,rfl,trivial⟩,trivial,rfl⟩,?_⟩;rintro⟨k,hk,hinv⟩;refine⟨fun h=>?_,fun h=>?_⟩
  ·have h:k<w.fs.length:=by have h:=of_decide_eq_true h;rw[hln] at h;simp only at h;omega
   have hat:(zA8 w.fs)[k]? = some (eFd w.fs[k]):=by simp[zA8,h]
   refine⟨_,by omega,hat,rfl,?_⟩;refine⟨fun h2=>?_,fun h2=>?_⟩
   ·have h2:w.fs[k].nm=s:=of_decide_eq_true h2;rw[hy k h hinv h2];refine⟨_,by omega,hat,rfl,?_⟩;exact rfl
   ·have h2:¬w.fs[k].nm=s:=of_decide_eq_false h2;refine⟨⟨k+1,h,fun j hj hjk=>?_⟩,by simp;omega,⟨rfl,rfl,rfl,svc (wrap_succ (k:=k) (by omega)),trivial⟩,trivial,rfl⟩;by_cases e:j=k
    ·subst e;exact h2
    ·exact hinv j hj (by omega)
  ·have h:k=w.fs.length:=by have h:=of_decide_eq_false h;rw[hln] at h;simp only at h;omega
   rw[hn fun j hj=>hinv j hj (by omega)];exact rfl
 refine⟨fun f hf=>main _ (fun k hk h1 h2=>?_) (fun h=>?_),fun hf=>main _ (fun k hk h1 h2=>?_) (fun h=>rfl)⟩
 ·have e:wB w.fs s=some w.fs[k]:=List.find?_eq_some_iff_getElem.2 ⟨decide_eq_true h2,k,hk,rfl,fun j hj=>by simpa using h1 j (by omega) hj⟩;rw[e] at hf;cases hf;rfl
 ·have hm:=List.mem_of_find?_eq_some hf;obtain⟨j,hj,rfl⟩:=List.getElem_of_mem hm;exact absurd (of_decide_eq_true (List.find?_some (p:=fun f:Fd=>decide (f.nm=s)) hf)) (h j hj)
 ·have:=List.find?_eq_none.1 hf w.fs[k] (List.getElem_mem hk);exact absurd (decide_eq_true h2) this
abbrev OfR (w:Wd) (c:Cr) (t:Tp) (b:Bool):Prop:=zC Tryz.prog 69 [eW w,eC c] (.tup [eTy t,.sb b])
theorem zZD {w:Wd} {n:Int} {s:ByteArray} {t0:Tp}:OfR w (.node 3 n s t0 .nil) (.con xI) true:=by
 have hk:=zCY 3 (by decide) (by decide);refine zB ttok mixed Tryz.func69 rfl (by rfl) (Nat.le_of_ble_eq_true rfl) (by kernel_rfl) ?_;refine .inl ⟨_,hk,?_⟩;refine⟨by kernel_rfl,?_⟩;refine⟨fun h=>Bool.noConfusion (show false=true from h),fun _=>?_⟩;refine⟨fun h=>Bool.noConfusion (show false=true from h),fun _=>?_⟩;refine⟨fun h=>Bool.noConfusion (show false=true from h),fun _=>?_⟩;refine⟨fun _=>?_,fun h=>Bool.noConfusion (show true=false from h)⟩;refine .inl ⟨_,xU xI,?_⟩;exact rfl
theorem zVZ {w:Wd} {n:Int} {s:ByteArray} {t:Tp} {K:Nat} (hf:FitX K t w.ps):OfR w (.node 11 n s t .nil) (w.mean t) true:=by
 have hk:=zCY 11 (by decide) (by decide);refine zB ttok mixed Tryz.func69 rfl (by rfl) (Nat.le_of_ble_eq_true rfl) (by kernel_rfl) ?_;refine .inl ⟨_,hk,?_⟩;refine⟨by kernel_rfl,?_⟩;refine⟨fun h=>Bool.noConfusion (show false=true from h),fun _=>?_⟩;refine⟨fun h=>Bool.noConfusion (show false=true from h),fun _=>?_⟩;refine⟨fun h=>Bool.noConfusion (show false=true from h),fun _=>?_⟩;refine⟨fun h=>Bool.noConfusion (show false=true from h),fun _=>?_⟩;refine⟨fun h=>Bool.noConfusion (show false=true from h),fun _=>?_⟩;refine⟨fun h=>Bool.noConfusion (show false=true from h),fun _=>?_⟩;refine⟨fun h=>Bool.noConfusion (show false=true from h),fun _=>?_⟩;refine⟨fun h=>Bool.noConfusion (show false=true from h),fun _=>?_⟩;refine⟨fun h=>Bool.noConfusion (show false=true from h),fun _=>?_⟩;refine⟨fun h=>Bool.noConfusion (show false=true from h),fun _=>?_⟩;refine⟨fun h=>Bool.noConfusion (show false=true from h),fun _=>?_⟩;refine .inl ⟨_,zJM w t hf,?_⟩;exact rfl
theorem zU4 {w:Wd} {n:Int} {s:ByteArray} {t u:Tp} {p g:Cr} {K:Nat} {b:Bool} (hf:FitX K t w.ps) (hg:g.kids=[]) (h:OfR w p u true) (h2:zC Tryz.prog 114 [eW w,eC (.node 9 n s t (.kid p g)),eTy u] (.sb b)):OfR w (.node 9 n s t (.kid p g)) (w.mean t) b:=by
 have hg0:g.e3 0=[]:=by rw[zRV,hg];rfl
 have hlen:((Cr.node 9 n s t (.kid p g)).e3 0)=[eC p]:=by show eC p::g.e3 0=_;rw[hg0]
 have hk:=zCY 9 (by decide) (by decide);refine zB ttok mixed Tryz.func69 rfl (by rfl) (Nat.le_of_ble_eq_true rfl) (by kernel_rfl) ?_;refine .inl ⟨_,hk,?_⟩;refine⟨by kernel_rfl,?_⟩;refine⟨fun h=>absurd h (by rw[hlen];simp[nK]),fun _=>?_⟩;refine⟨fun h=>Bool.noConfusion (show false=true from h),fun _=>?_⟩;refine⟨fun h=>Bool.noConfusion (show false=true from h),fun _=>?_⟩;refine⟨fun h=>Bool.noConfusion (show false=true from h),fun _=>?_⟩;refine⟨fun h=>Bool.noConfusion (show false=true from h),fun _=>?_⟩;refine⟨fun h=>Bool.noConfusion (show false=true from h),fun _=>?_⟩;refine⟨fun h=>Bool.noConfusion (show false=true from h),fun _=>?_⟩;refine⟨fun h=>Bool.noConfusion (show false=true from h),fun _=>?_⟩;refine⟨fun h=>Bool.noConfusion (show false=true from h),fun _=>?_⟩;refine⟨fun _=>?_,fun h=>Bool.noConfusion (show true=false from h)⟩;refine⟨_,by decide,rfl,rfl,?_⟩;refine .inl ⟨_,h,?_⟩;refine⟨by kernel_rfl,?_⟩;refine .inl ⟨_,zJM w t hf,?_⟩;refine⟨fun _=>?_,fun h=>Bool.noConfusion (show true=false from h)⟩;refine .inl ⟨_,h2,?_⟩;exact rfl
def shR (f:Fd):AV:=match yQ f with
 | some (l,n,vs) => .tup [.sl (zJ l),.lit (.string n),.sl (eSs vs),.sb true]
 | none => .tup [.sl [],.lit (.string .empty),.sl [],.sb false]
theorem zJ7 {t:Tp} (h:zG2 t=true):∃g x y,t = .app (.app g x) y/\partsOf t=(x,y,true):=by
 have hp:=zCF t;rw[h] at hp;cases t with
 | app a y =>
  cases a with
  | app g x =>
   refine⟨g,x,y,rfl,?_⟩;unfold partsOf at hp⊢;simp only at hp⊢;split at hp
   ·rename_i q;rw[if_pos q]
   ·cases hp
  | _=>cases h
 | _=>cases h
theorem zKN {f:Fd} (hd:f.t.sz<100000) (ha:f.ar<=1000000):zC Tryz.prog 150 [eFd f] (shR f):=by
 obtain⟨r,hr⟩:∃r,r=shR f:=⟨_,rfl⟩
 rw[<-hr];have hd2:=jJ f.t;have hA0:wX f.t []=none->r = .tup [.sl [],.lit (.string .empty),.sl [],.sb false]:=fun h=>by rw[hr];unfold shR yQ;rw[h]
 refine zB ttok mixed Tryz.func150 rfl (by rfl) (Nat.le_of_ble_eq_true rfl) (by kernel_rfl) ?_;refine⟨St1 f,fun p=>{vs:=[(1,.box 0 (eFd f)),(6,.box 0 (eTy p.1.2)),(7,.v (.sl (eSs p.1.1)))],ow:=[(7,0,2)]},fun p=>p.1.2.sz,⟨([],f.t),rfl,by simp⟩,⟨⟨rfl,rfl,rfl,trivial⟩,⟨trivial,trivial⟩,rfl⟩,?_⟩;rintro⟨⟨ws,cur⟩,hp,hlen⟩;simp only at hp hlen;refine⟨fun h=>?_,fun h=>?_⟩
 ·obtain⟨s,a,rfl⟩:=Tp.is_all (t:=cur) (by simpa using h);simp only[dp] at hlen;refine .inl ⟨_,zDX (l:=ws) (s:=s) (by omega),?_⟩;refine⟨fun h2=>?_,fun h2=>?_⟩
  ·have hm:s∈ws:=memb_iff.1 h2;rw[yX,if_pos hm] at hp;rw[hA0 hp.symm];exact rfl
  ·have hns:s∉ws:=fun hm=>by have h2:memb s ws=false:=h2;rw[yO hm] at h2;cases h2
   rw[yX,if_neg hns] at hp;refine⟨by simp[eSs];omega,xH _,xH [_],?_⟩;refine⟨eTy a,by omega,rfl,rfl,?_⟩;exact⟨⟨(ws++[s],a),hp,by simp;omega⟩,by simp only[Tp.sz];omega,⟨rfl,rfl,congrArg (fun l=>SV.v (AV.sl l)) (zB3 ws s),trivial⟩,⟨rfl,trivial⟩,rfl⟩
 have h5:¬cur.form=5:=by simpa using h
 rw[zA4 h5] at hp;have hA:wX f.t []=some (ws,cur):=hp.symm;clear h h5 hp hA0;have hF0:yK f.ar.toNat cur=none->r = .tup [.sl [],.lit (.string .empty),.sl [],.sb false]:=fun h=>by rw[hr];unfold shR yQ;rw[hA];simp only[h]
 refine⟨St2 f cur,fun p=>{vs:=[(1,.box 0 (eFd f)),(6,.box 0 (eTy p.1.2)),(7,.v (.sl (eSs ws))),(8,.v (.sl (zJ p.1.1))),(9,sv (p.1.1.length:Nat))],ow:=[(8,0,5)]},fun p=>f.ar.toNat-p.1.1.length,⟨([],cur),by simp,by simp⟩,⟨⟨rfl,rfl,rfl,rfl,rfl,trivial⟩,⟨trivial,trivial⟩,rfl⟩,?_⟩;rintro⟨⟨ls,t⟩,hp1,hp2⟩;simp only at hp1 hp2;refine⟨fun h=>?_,fun h=>?_⟩
 ·have h:ls.length<f.ar.toNat:=by have h:=of_decide_eq_true h;simp only at h;omega
  rw[show f.ar.toNat-ls.length=(f.ar.toNat-(ls.length+1))+1 by omega] at hp2;refine .inl ⟨_,zN1 t,?_⟩;refine⟨fun h2=>?_,fun h2=>?_⟩
  ·have h2:zG2 t=false:=by simpa using h2
   have hf:¬(partsOf t).2.2=true:=by rw[zCF,h2];decide
   simp only[yK,if_neg hf,Option.map_none] at hp2;rw[hF0 hp2.symm];exact rfl
  ·have h2:zG2 t=true:=by simpa using h2
   obtain⟨g,x,y,rfl,hpt⟩:=zJ7 h2;rw[yK,hpt] at hp2;simp only[if_true,Option.map_map] at hp2;refine⟨_,by decide,rfl,rfl,?_⟩;refine⟨_,by decide,rfl,rfl,?_⟩;refine⟨by simp[zJ];omega,zAW _,zAW [x],?_⟩;refine⟨_,by decide,rfl,rfl,?_⟩;refine⟨⟨(ls++[x],y),by simp;omega,?_⟩,by simp;omega,⟨rfl,rfl,rfl,?_,?_,trivial⟩,⟨rfl,trivial⟩,rfl⟩
   ·rw[<-hp2];simp only[List.length_append,List.length_cons,List.length_nil,Nat.zero_add]
    congr 1
    funext q
    simp
   ·show _=SV.v (AV.sl (zJ (ls++[x])));rw[show zJ (ls++[x])=zJ ls++[eTy x] by simp[zJ]];exact rfl
   ·simp only[List.length_append,List.length_cons,List.length_nil,Nat.zero_add];exact svc (wrap_succ (k:=ls.length) (by omega))
 have h:ls.length=f.ar.toNat:=by have h:=of_decide_eq_false h;simp only at h;omega
 rw[h,Nat.sub_self] at hp2;simp only[yK,Option.map_some,List.append_nil] at hp2;have hF:yK f.ar.toNat cur=some (ls,t):=hp2.symm;clear hF0 hp2;have hz1:=zCZ _ _ _ _ hA;have hz2:=zBH _ _ _ _ hF;have hsl:=zBG t;have hsp:=zC3 t (by omega);have hlr:(zJ (zI t).reverse).length=(zI t).length:=by simp[zJ]
 have hlw:(eSs ws).length=ws.length:=wC ws;have hno:¬((xW t).form=3/\(zI t).reverse=ws.map Tp.var)->r = .tup [.sl [],.lit (.string .empty),.sl [],.sb false]:=fun h=>by rw[hr];unfold shR yQ;rw[hA];simp only[hF];rw[if_neg h]
 have hyes:(xW t).form=3->(zI t).reverse=ws.map Tp.var->r = .tup [.sl (zJ ls),.lit (.string (xW t).nam),.sl (eSs ws),.sb true]:=fun h1 h2=>by rw[hr];unfold shR yQ;rw[hA];simp only[hF];rw[if_pos ⟨h1,h2⟩]
 have hwl:ws.length<=1000000:=by omega
 clear hr hA hF hz1 hz2;refine .inl ⟨_,hsp,?_⟩;refine⟨fun h3=>?_,fun h3=>?_⟩
 ·have h3:(xW t).form=3:=by simpa using h3
  refine⟨fun h4=>?_,fun h4=>?_⟩
  ·have h4:(zI t).length≠ws.length:=by rw[hlr,hlw] at h4;have h4:=h4;simp at h4;omega
   rw[hno fun q=>h4 (by have:=congrArg List.length q.2;simpa using this)];exact rfl
  ·have h4:(zI t).length=ws.length:=by rw[hlr,hlw] at h4;have h4:=h4;simp at h4;omega
   refine⟨{k:Nat // k<=ws.length/\∀j (h1:j<(zI t).reverse.length) (h2:j<ws.length),j<k->(zI t).reverse[j] = .var ws[j]},fun k=>{vs:=[(7,.v (.sl (eSs ws))),(8,.v (.sl (zJ ls))),(10,.box 0 (eTy (xW t))),(11,.v (.sl (zJ (zI t).reverse))),(12,sv (k.1:Nat))]},fun k=>ws.length-k.1,⟨0,Nat.zero_le _,fun j _ _ h=>by omega⟩,⟨⟨rfl,rfl,rfl,rfl,rfl,trivial⟩,trivial,rfl⟩,?_⟩;rintro⟨k,hk,hinv⟩;refine⟨fun h=>?_,fun h=>?_⟩
   ·have h:k<ws.length:=by have h:=of_decide_eq_true h;rw[hlr] at h;simp only at h;omega
    have hk2:k<(zI t).reverse.length:=by simp;omega
    have hat:(zJ (zI t).reverse)[k]? = some (eTy (zI t).reverse[k]):=by simp only[zJ,List.getElem?_map,List.getElem?_eq_getElem hk2,Option.map_some]
    have hne:(zI t).reverse[k]≠.var ws[k]->r = .tup [.sl [],.lit (.string .empty),.sl [],.sb false]:=fun q=>hno fun q2=>q (by
     have e:(zI t).reverse[k]? = some (.var ws[k]):=by rw[q2.2,List.getElem?_map,List.getElem?_eq_getElem h];rfl
     rw[List.getElem?_eq_getElem hk2] at e;exact Option.some.inj e)
    refine⟨_,by omega,hat,rfl,?_⟩;refine⟨fun h5=>?_,fun h5=>?_⟩
    ·have h5:(zI t).reverse[k].form=2:=by simpa using h5
     refine⟨_,by omega,hat,rfl,?_⟩;refine⟨_,by omega,zBI h,rfl,?_⟩;refine⟨by kernel_rfl,?_⟩;refine⟨fun h6=>?_,fun h6=>?_⟩
     ·have h6:(zI t).reverse[k].nam≠ws[k]:=by simpa using h6
      rw[hne fun q=>h6 (by rw[q];rfl)];exact rfl
     ·have h6:(zI t).reverse[k].nam=ws[k]:=by have h6:=h6;simpa using h6
      refine⟨⟨k+1,h,fun j g1 g2 g3=>?_⟩,by simp;omega,⟨rfl,rfl,rfl,rfl,svc (wrap_succ (k:=k) (by omega)),trivial⟩,trivial,rfl⟩;by_cases e:j=k
      ·subst e;exact isVarP.1 ⟨h5,h6⟩
      ·exact hinv j g1 g2 (by omega)
    ·have h5:¬(zI t).reverse[k].form=2:=by simpa using h5
     refine⟨by kernel_rfl,?_⟩;rw[hne fun q=>h5 (by rw[q];rfl)];exact rfl
   ·have h:k=ws.length:=by have h:=of_decide_eq_false h;rw[hlr] at h;simp only at h;omega
    refine⟨by kernel_rfl,?_⟩;have hall:(zI t).reverse=ws.map Tp.var:=by
     refine List.ext_getElem (by simp;omega) fun j g1 g2=>?_;have g3:j<ws.length:=by simpa using g2
     rw[List.getElem_map];exact hinv j g1 g3 (by omega)
    rw[hyes h3 hall];exact rfl
 ·have h3:¬(xW t).form=3:=by simpa using h3
  rw[hno fun q=>h3 q.1];exact rfl
end Go.Proofs.YtdmbahepaglcbaaGreatDoor
