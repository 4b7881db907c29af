/- Binds: whether binds are of their types. No condition but on what is within. -/
import Derived.Test.YtdmbahepaglcbaaGreatDoorU
import Derived.Test.YtdmbahepaglcbaaGreatDoorC
import Derived.Test.YtdmbahepaglcbaaGreatDoorG
import Derived.Test.YtdmbahepaglcbaaGreatDoorO
import Derived.Test.YtdmbahepaglcbaaGreatDoorT
set_option linter.unusedSimpArgs false
set_option linter.unusedVariables false
namespace Go.Proofs.YtdmbahepaglcbaaGreatDoor
open Go Fp
set_option maxRecDepth 10000
set_option maxHeartbeats 8000000
set_option linter.unusedVariables false
set_option maxRecDepth 100000
def NmX:Tp->Prop
 | .app a b=>NmX a/\NmX b
 | .all _ a=>NmX a
 | .mt n => ∃k:Nat,n=(k:Int)/\k<10
 | .no=>False
 | _=>True
theorem zHM (t:Tp):∀x:List ByteArray,NmX t->x.length+dp t<=900000->(nl t x).size<=1000000000000000000->zF Tryz.prog zEA [eTy t,.sl (eSs x)] (.lit (.string (nl t x))):=by
 induction t with
 | no=>intro x h;exact h.elim
 | mt n =>
  intro x h _ hz;obtain⟨k,rfl,hk⟩:=h;have:=xP 1 k (by omega) (by decide);refine zD ttok mixed Tryz.func47 rfl (by rfl) (Nat.le_of_ble_eq_true rfl) (by kernel_rfl) ?_;refine⟨fun _=>?_,fun h=>(by cases h)⟩;refine .inl ⟨_,zDO k k (Nat.le_refl _) (by omega),?_⟩;refine⟨by rw[sz1];omega,?_⟩;exact rfl
 | con s =>
  intro x h _ hz;refine zD ttok mixed Tryz.func47 rfl (by rfl) (Nat.le_of_ble_eq_true rfl) (by kernel_rfl) ?_;refine⟨fun h=>(by cases h),fun _=>?_⟩;refine⟨fun h=>(by cases h),fun _=>?_⟩;refine⟨fun _=>?_,fun h=>(by cases h)⟩;exact rfl
 | var s =>
  intro x _ hl hz;simp only[dp] at hl;have hxl:(eSs x).length=x.length:=by simp[eSs]
  have hrl:x.reverse.length=x.length:=by simp
  have e0:IntKind.i64.wrap (((eSs x).length:Nat)-1)=(x.length:Int)-1:=by rw[hxl];exact zHU (by omega) (by omega)
  refine zD ttok mixed Tryz.func47 rfl (by rfl) (Nat.le_of_ble_eq_true rfl) (by kernel_rfl) ?_;refine⟨fun h=>(by cases h),fun _=>?_⟩;refine⟨fun _=>?_,fun h=>(by cases h)⟩;refine⟨{k:Nat // k<=x.length/\∀j,j<k->x.reverse[j]?≠some s},fun k=>{vs:=[(1,.v (.sl (eSs x))),(2,.box 0 (eTy (.var s))),(5,.v (.lit (.int .i64 ((x.length:Int)-1-(k.1:Nat)))))],ow:=[]},
   fun k=>x.length-k.1,⟨0,Nat.zero_le _,fun j hj=>absurd hj (by omega)⟩,⟨⟨rfl,rfl,?_,trivial⟩,trivial,rfl⟩,?_⟩
  ·exact congrArg (fun n=>SV.v (AV.lit (Value.int .i64 n))) (e0.trans (by simp))
  rintro⟨k,hk,hn⟩;refine⟨fun h=>?_,fun h=>?_⟩
  ·have h:k<x.length:=by
    have:=of_decide_eq_true h;simp only at this;omega
   have ei:((x.length:Int)-1-(k:Nat)).toNat=x.length-1-k:=by omega
   have hi:x.length-1-k<x.length:=by omega
   have hrev:x.reverse[k]'(by omega)=x[x.length-1-k]:=by simp[List.getElem_reverse]
   refine⟨.lit (.string x[x.length-1-k]),by show (0:Int)<=(x.length:Int)-1-(k:Nat);omega,by show (eSs x)[((x.length:Int)-1-(k:Nat)).toNat]? = _;rw[ei];exact zEK hi,rfl,?_⟩;refine⟨fun h2=>?_,fun h2=>?_⟩
   ·have h2:x[x.length-1-k]=s:=of_decide_eq_true h2;have hm:s∈x:=h2 ▸ List.getElem_mem hi;have hix:ixN x.reverse s=k:=by
     have h1:=zML (l:=x.reverse) (k:=k) (by omega) (by rw[hrev,h2]) hn;rw[z3N (List.mem_reverse.2 hm)] at h1;omega
    have en:nl (.var s) x=⟨#[35]⟩++dcm k:=by rw[nl,zS hm,if_pos rfl,hix]
    rw[en];have ek:IntKind.i64.wrap (IntKind.i64.wrap (((eSs x).length:Nat)-1)-((x.length:Int)-1-(k:Nat)))=((k:Nat):Int):=by
     rw[e0,show (x.length:Int)-1-((x.length:Int)-1-(k:Nat))=((k:Nat):Int) by omega];exact yH (by omega)
    have hd:=zDO k k (Nat.le_refl _) (by omega);rw[<-ek] at hd;refine .inl ⟨_,hd,?_⟩;have:=xP 7 k (by omega) (by decide);refine⟨by rw[sz1];omega,?_⟩;exact rfl
   ·have h2:x[x.length-1-k]≠s:=of_decide_eq_false h2;refine⟨⟨k+1,h,zH1 (l:=x.reverse) (by omega) (by rw[hrev];exact h2) hn⟩,(show x.length-(k+1)<x.length-k by omega),⟨rfl,rfl,?_,trivial⟩,trivial,rfl⟩;refine congrArg (fun n=>SV.v (AV.lit (Value.int .i64 n))) ?_;show IntKind.i64.wrap ((x.length:Int)-1-(k:Nat)-1)=(x.length:Int)-1-((k+1:Nat):Int);rw[zHU (by omega) (by omega)];omega
  ·have h:k=x.length:=by
    have:=of_decide_eq_false h;simp only at this;omega
   subst h;have hno:s∉x:=fun hm=>zAS (l:=x.reverse) (by rw[hrl];exact hn) (List.mem_reverse.2 hm);have en:nl (.var s) x=⟨#[39]⟩++s:=by rw[nl,yM hno];rfl
   rw[en,ByteArray.size_append,sz1] at hz;rw[en];refine⟨by rw[sz1];show 1+s.size<=_;omega,?_⟩;exact rfl
 | app a b iha ihb =>
  intro x h2 hl hz;simp only[dp] at hl;simp only[nl,ByteArray.size_append,sz1] at hz;refine zD ttok mixed Tryz.func47 rfl (by rfl) (Nat.le_of_ble_eq_true rfl) (by kernel_rfl) ?_;refine⟨fun h=>(by cases h),fun _=>?_⟩;refine⟨fun h=>(by cases h),fun _=>?_⟩;refine⟨fun h=>(by cases h),fun _=>?_⟩;refine⟨fun h=>(by cases h),fun _=>?_⟩;refine⟨fun _=>?_,fun h=>(by cases h)⟩;refine⟨fun h=>(by cases h),fun _=>?_⟩;refine⟨_,by decide,rfl,rfl,?_⟩;refine .inl ⟨_,iha x h2.1 (by omega) (by omega),?_⟩;refine⟨by simp only[ByteArray.size_append,sz1];omega,?_⟩;refine⟨by simp only[ByteArray.size_append,sz1];omega,?_⟩;refine⟨_,by decide,rfl,rfl,?_⟩;refine .inl ⟨_,ihb x h2.2 (by omega) (by omega),?_⟩;refine⟨by simp only[ByteArray.size_append,sz1];omega,?_⟩;refine⟨by simp only[ByteArray.size_append,sz1];omega,?_⟩;exact rfl
 | all s a ih =>
  intro x h2 hl hz;simp only[dp] at hl;simp only[nl,ByteArray.size_append,sz1] at hz;have hxl:(eSs x).length=x.length:=by simp[eSs]
  have hi:=ih (x++[s]) h2 (by simp;omega) (by omega);rw[<-zDA,<-List.nil_append (eSs x)] at hi;refine zD ttok mixed Tryz.func47 rfl (by rfl) (Nat.le_of_ble_eq_true rfl) (by kernel_rfl) ?_;refine⟨fun h=>(by cases h),fun _=>?_⟩;refine⟨fun h=>(by cases h),fun _=>?_⟩;refine⟨fun h=>(by cases h),fun _=>?_⟩;refine⟨fun _=>?_,fun h=>(by cases h)⟩;refine⟨fun h=>(by cases h),fun _=>?_⟩;refine⟨by simp[hxl];omega,zRQ _,yP _,?_⟩;refine⟨_,by decide,rfl,rfl,?_⟩;refine⟨by simp[hxl];omega,by simpa using yP x,yP [_],?_⟩;refine .inl ⟨_,hi,?_⟩;refine⟨by simp only[ByteArray.size_append,sz1];omega,?_⟩;refine⟨by simp only[ByteArray.size_append,sz1];omega,?_⟩;exact rfl
theorem zPX {a b:Tp} (ha:NmX a) (hb:NmX b) (hda:dp a<=900000) (hdb:dp b<=900000) (hza:(nl a []).size<=1000000000000000000) (hzb:(nl b []).size<=1000000000000000000):zF Tryz.prog qI [eTy a,eTy b] (.sb (decide (nl a []=nl b []))):=by
 have h1:=zHM a [] ha (by simpa using hda) hza;have h2:=zHM b [] hb (by simpa using hdb) hzb;refine zD ttok mixed Tryz.func17 rfl (by rfl) (Nat.le_of_ble_eq_true rfl) (by kernel_rfl) ?_;refine .inl ⟨_,h1,?_⟩;refine .inl ⟨_,h2,?_⟩;exact rfl
theorem zET (s:ByteArray):zF Tryz.prog 38 [.lit (.string s)] (eTy (.con s)):=by
 refine zG ttok mixed Tryz.func38 rfl (by rfl) (Nat.le_of_ble_eq_true rfl) (by kernel_rfl) ?_;exact rfl
theorem zEX (s:ByteArray) (t:Tp):zF Tryz.prog 39 [.lit (.string s),eTy t] (eTy (.all s t)):=by
 refine zG ttok mixed Tryz.func39 rfl (by rfl) (Nat.le_of_ble_eq_true rfl) (by kernel_rfl) ?_;exact rfl
structure V9 where
 L:List Nm2
 vars:List ByteArray
 deep:Nat
def eV (v:V9):AV := .agg [.sl (xW v.L),.sl (eSs v.vars),.lit (.int .i64 (v.deep:Nat))]
def hid (l:List Nm2) (i:Nat) (s:ByteArray):Bool:=decide (s∉(l.drop (i+1)).map (·.1))
def zdC:List ByteArray:=[xU,zDG,⟨#[76]⟩,⟨#[80]⟩,arrow]
def zSW (vars:List ByteArray):Tp->Prop
 | .con s=>s∈zdC
 | .var x=>x∈vars
 | .app a b=>zSW vars a/\zSW vars b
 | _=>False
inductive Frm:Tp->Prop
 | int:Frm (.con xU)
 | bool:Frm (.con zDG)
 | var (x:ByteArray):Frm (.var x)
 | ls {a:Tp} (h:Frm a):Frm (.app (.con ⟨#[76]⟩) a)
 | fn {a b:Tp} (h:Frm a) (h2:Frm b):Frm (.app (.app (.con arrow) a) b)
 | pr {a b:Tp} (h:Frm a) (h2:Frm b):Frm (.app (.app (.con ⟨#[80]⟩) a) b)
def wd (c:UInt8):Bool:=c != 32 && c != 41 && c != 93
abbrev Wrd (s:ByteArray):Prop := ∀c∈by' s,wd c=true
def CoW (s:ByteArray):Prop:=Wrd s/\∃c l,by' s=c::l/\c≠63/\c≠35/\c≠39/\c≠91/\c≠40
theorem zdX {c:UInt8} (h:tk c=true):wd c=true:=by
 unfold tk at h;unfold wd;simp only[Bool.or_eq_true,Bool.and_eq_true,decide_eq_true_eq,bne_iff_ne,ne_eq] at h⊢;refine⟨⟨?_,?_⟩,?_⟩<;>rintro rfl<;>revert h<;>decide
theorem zJR (n:Nat):Wrd (dcm n):=fun c hc=>zdX (zcG n c hc)
theorem zYK {a b:ByteArray} (ha:Wrd a) (hb:Wrd b):Wrd (a++b):=fun c hc=>by
 rw[zDX] at hc;rcases List.mem_append.1 hc with h|h
 ·exact ha c h
 ·exact hb c h
def zOJ (r:List UInt8):Prop := ∀c,r[0]? = some c->wd c=false
theorem zPD:zOJ []:=fun c h=>by simp at h
theorem zAU {c:UInt8} {r:List UInt8} (h:wd c=false):zOJ (c::r):=fun d hd=>by simp at hd;subst hd;exact h
theorem zS9:∀{l m r q:List UInt8},(∀c∈l,wd c=true)->(∀c∈m,wd c=true)->zOJ r->zOJ q->l++r=m++q->l=m/\r=q
 | [],[],r,q,_,_,_,_,h=>⟨rfl,h⟩
 | [],c::m,r,q,_,hm,hr,_,h=>by
  have h:r=c::(m++q):=h;subst h;have:=hr c (by simp);rw[hm c (by simp)] at this;cases this
 | c::l,[],r,q,hl,_,_,hq,h=>by
  have h:c::(l++r)=q:=h;subst h;have:=hq c (by simp);rw[hl c (by simp)] at this;cases this
 | c::l,d::m,r,q,hl,hm,hr,hq,h=>by
  simp only[List.cons_append,List.cons.injEq] at h;obtain⟨rfl,h⟩:=h;obtain⟨rfl,h2⟩:=zS9 (fun x hx=>hl x (by simp[hx])) (fun x hx=>hm x (by simp[hx])) hr hq h;exact⟨rfl,h2⟩
def VdX:Db->Prop
 | .mt n => ∃k:Nat,n=(k:Int)/\k<10
 | .bv _=>True
 | .fr s=>Wrd s
 | .con s=>CoW s
 | .all a=>VdX a
 | .app a b=>VdX a/\VdX b
 | .no=>False
theorem z7I (d:Db):∀(e:Db) (r q:List UInt8),VdX d->VdX e->zOJ r->zOJ q->ser d++r=ser e++q->d=e/\r=q:=by
 induction d with
 | no=>intro e r q h;exact h.elim
 | mt n =>
  intro e r q hd he hr hq h;obtain⟨k,rfl,_⟩:=hd;cases e with
  | mt m =>
   obtain⟨j,rfl,_⟩:=he;simp only[ser,List.cons_append,List.cons.injEq,true_and,Int.toNat_natCast] at h;obtain⟨h1,h2⟩:=zS9 (zJR _) (zJR _) hr hq h;exact⟨by rw[zYG h1],h2⟩
  | con s=>obtain⟨_,c,l,e,h1,h2,h3,h4,h5⟩:=he;simp only[ser,e,List.cons_append,List.cons.injEq] at h;exact absurd h.1.symm h1
  | no=>exact he.elim
  | _=>simp[ser] at h
 | bv n =>
  intro e r q hd he hr hq h;cases e with
  | bv m =>
   simp only[ser,List.cons_append,List.cons.injEq,true_and] at h;obtain⟨h1,h2⟩:=zS9 (zJR _) (zJR _) hr hq h;exact⟨by rw[zYG h1],h2⟩
  | con s=>obtain⟨_,c,l,e,h1,h2,h3,h4,h5⟩:=he;simp only[ser,e,List.cons_append,List.cons.injEq] at h;exact absurd h.1.symm h2
  | no=>exact he.elim
  | _=>simp[ser] at h
 | fr s =>
  intro e r q hd he hr hq h;cases e with
  | fr u =>
   simp only[ser,List.cons_append,List.cons.injEq,true_and] at h;obtain⟨h1,h2⟩:=zS9 hd he hr hq h;exact⟨by rw[zQ5 h1],h2⟩
  | con s=>obtain⟨_,c,l,e,h1,h2,h3,h4,h5⟩:=he;simp only[ser,e,List.cons_append,List.cons.injEq] at h;exact absurd h.1.symm h3
  | no=>exact he.elim
  | _=>simp[ser] at h
 | con s =>
  intro e r q hd he hr hq h;cases e with
  | con u =>
   obtain⟨h1,h2⟩:=zS9 hd.1 he.1 hr hq h;exact⟨by rw[zQ5 h1],h2⟩
  | no=>exact he.elim
  | _ =>
   obtain⟨_,c,l,e,h1,h2,h3,h4,h5⟩:=hd;simp only[ser,e,List.cons_append,List.cons.injEq] at h
   first
   | exact absurd h.1 h1
   | exact absurd h.1 h2
   | exact absurd h.1 h3
   | exact absurd h.1 h4
   | exact absurd h.1 h5
 | all a ih =>
  intro e r q hd he hr hq h;cases e with
  | all b =>
   simp only[ser,List.cons_append,List.cons.injEq,true_and,List.append_assoc] at h;obtain⟨rfl,h2⟩:=ih b _ _ hd he (zAU (by decide)) (zAU (by decide)) h;exact⟨rfl,by simpa using h2⟩
  | con s=>obtain⟨_,c,l,e,h1,h2,h3,h4,h5⟩:=he;simp only[ser,e,List.cons_append,List.cons.injEq] at h;exact absurd h.1.symm h4
  | no=>exact he.elim
  | _=>simp[ser] at h
 | app a b iha ihb =>
  intro e r q hd he hr hq h;cases e with
  | app c d =>
   simp only[ser,List.cons_append,List.cons.injEq,true_and,List.append_assoc] at h;obtain⟨rfl,h2⟩:=iha c _ _ hd.1 he.1 (zAU (by decide)) (zAU (by decide)) h;simp only[List.cons.injEq,true_and] at h2;obtain⟨rfl,h3⟩:=ihb d _ _ hd.2 he.2 (zAU (by decide)) (zAU (by decide)) h2;exact⟨rfl,by simpa using h3⟩
  | con s=>obtain⟨_,c,l,e,h1,h2,h3,h4,h5⟩:=he;simp only[ser,e,List.cons_append,List.cons.injEq] at h;exact absurd h.1.symm h5
  | no=>exact he.elim
  | _=>simp[ser] at h
def TkX:Tp->Prop
 | .app a b=>TkX a/\TkX b
 | .all s a=>Wrd s/\TkX a
 | .mt n => ∃k:Nat,n=(k:Int)/\k<10
 | .con s=>CoW s
 | .var s=>Wrd s
 | .no=>False
theorem z4A (t:Tp):∀e,TkX t->VdX (db t e):=by
 induction t with
 | no=>exact fun _ h=>h
 | mt n=>exact fun _ h=>h
 | con s=>exact fun _ h=>h
 | var s =>
  intro e h;simp only[db];split
  ·trivial
  ·exact h
 | app a b iha ihb=>exact fun e h=>⟨iha e h.1,ihb e h.2⟩
 | all s a ih=>exact fun e h=>ih _ h.2
theorem z8P {a b:Tp} (ha:TkX a) (hb:TkX b):nl a []=nl b []↔smb a b [] []=true:=by
 rw[zP8 a b [] [] rfl];constructor
 ·intro h;have h1:=zI0 a [];have h2:=zI0 b [];rw[h] at h1;rw[h1] at h2;exact (z7I _ _ [] [] (z4A a _ ha) (z4A b _ hb) zPD zPD (by rw[h2])).1
 ·intro h;refine zQ5 ?_;rw[zI0,zI0,h]
theorem TkX.nm:∀{t:Tp},TkX t->NmX t
 | .app _ _,h=>⟨TkX.nm h.1,TkX.nm h.2⟩
 | .all _ a,h=>TkX.nm (t:=a) h.2
 | .mt _,h=>h
 | .con _,_=>trivial
 | .var _,_=>trivial
 | .no,h=>h
def Shn (K:Nat):Tp->Prop
 | .app a b=>Shn K a/\Shn K b
 | .all s a=>Shn K a
 | .con s=>s.size<=K
 | .var s=>s.size<=K
 | _=>True
theorem z7O {K:Nat} (t:Tp):∀x:List ByteArray,TkX t->Shn K t->x.length+t.sz<=1000000->(nl t x).size+3<=(K+20)*t.sz:=by
 induction t with
 | no=>intro x h;exact h.elim
 | mt n =>
  intro x ⟨k,h1,h2⟩ _ _;subst h1;have:=xP 1 k (by omega) (by decide);simp only[nl,ByteArray.size_append,Tp.sz,Int.toNat_natCast];show 1+_+3<=_;omega
 | con s=>intro x _ h _;simp only[nl,Tp.sz];have h:s.size<=K:=h;omega
 | var s =>
  intro x _ h hl;have h:s.size<=K:=h;simp only[nl,Tp.sz] at hl⊢;split
  ·rename_i hm;have:=zI1 (List.mem_reverse.2 (memb_iff.1 hm));rw[List.length_reverse] at this;have:=xP 7 (ixN x.reverse s) (by omega) (by decide);rw[ByteArray.size_append];show 1+_+3<=_;omega
  ·rw[ByteArray.size_append];show 1+_+3<=_;omega
 | app a b iha ihb =>
  intro x h hs hl;simp only[Tp.sz] at hl;have h1:=iha x h.1 hs.1 (by omega);have h2:=ihb x h.2 hs.2 (by omega);simp only[nl,ByteArray.size_append,Tp.sz,Nat.mul_add];show 1+_+1+_+1+3<=_;omega
 | all s a ih =>
  intro x h hs hl;simp only[Tp.sz] at hl;have h1:=ih (x++[s]) h.2 hs (by simp;omega);simp only[nl,ByteArray.size_append,Tp.sz,Nat.mul_add];show 1+_+1+3<=_;omega
theorem z1C {a b:Tp} {K:Nat} (ha:TkX a) (hb:TkX b) (sa:Shn K a) (sb:Shn K b) (ka:a.sz<=800000) (kb:b.sz<=800000) (hK:K<=1000000000000):zF Tryz.prog qI [eTy a,eTy b] (.sb (smb a b [] [])):=by
 have h1:=z7O a [] ha sa (by simp;omega);have h2:=z7O b [] hb sb (by simp;omega);have d1:=jG a;have d2:=jG b;have m1:(K+20)*a.sz<=1000000000020*800000:=Nat.mul_le_mul (by omega) ka;have m2:(K+20)*b.sz<=1000000000020*800000:=Nat.mul_le_mul (by omega) kb;have h:=zPX ha.nm hb.nm (by omega) (by omega) (by omega) (by omega);have e:decide (nl a []=nl b [])=smb a b [] []:=by
  have:=z8P ha hb;by_cases q:nl a []=nl b []
  ·rw[decide_eq_true q,this.1 q]
  ·rw[decide_eq_false q];cases hs:smb a b [] [] with
   | true=>exact absurd (this.2 hs) q
   | false=>rfl
 rw[e] at h;exact h
def Gs (t:Tp):Prop:=t.sz<=700/\TkX t/\Shn 1000 t
structure WOk (B:Nat) (w:Wd):Prop where
 fl:w.fs.length<=1000
 fo:∀f∈w.fs,FdOk f/\f.t.sz<=500/\f.ar<=100/\Gs f.t
 el:w.env.length<=B
 pl:w.ps.length<=200
 pv:∀p∈w.ps,∃x,p.2 = .var x
 dl:w.deep<100
theorem zM9 (t:Tp):(fv t).length<=t.sz:=qU t
theorem zBQ {t:Tp} {ps:Env'} (h:t.sz+(caught ps).length<=1000) (hp:ps.length<=1000) (hd:∀p∈ps,dp p.2<1000000) (hs:t.sz<=700):FitX 1000 t ps:=by
 have h1:=zM9 t;have h2:=jG t;refine⟨⟨fv t++caught ps,by rw[List.length_append];omega,fun s hs=>List.mem_append_left _ hs,fun p hp s hs=>List.mem_append_right _ (List.mem_flatMap.2 ⟨p,hp,hs⟩)⟩,by omega,by omega,hd⟩
theorem zG6:∀{ps:Env'},(∀p∈ps,∃x,p.2 = .var x)->(caught ps).length<=ps.length
 | [],_=>Nat.le_refl _
 | p::r,h=>by
  obtain⟨x,e⟩:=h p (by simp);have:=zG6 (ps:=r) fun q hq=>h q (by simp[hq]);show (fv p.2++caught r).length<=_;rw[e,List.length_append];simp[fv];omega
theorem WOk.fit {B:Nat} {w:Wd} (h:WOk B w) {t:Tp} (ht:t.sz<=500):FitX 1000 t w.ps:=by
 have h1:=zG6 h.pv;have h2:=h.pl;exact zBQ (by omega) (by omega) (fun p hp=>by obtain⟨x,e⟩:=h.pv p hp;rw[e];simp[dp]) (by omega)
theorem z8W {a u:Tp} {s:ByteArray} (ha:a.sz<=500) (hu:u.sz<=500):FitX 1000 a [(s,u)]:=by
 have h1:=zM9 u;have h2:=jG u;refine zBQ ?_ (by simp) (fun p hp=>?_) (by omega)
 ·show a.sz+(fv u++[]).length<=_;rw[List.append_nil];omega
 ·rw[List.mem_singleton.1 hp];show dp u<_;omega
theorem z4F:∀t:Tp,((xB t).map Tp.sz).sum<=t.sz:=by
 intro t;induction t with
 | app x b ih _=>simp only[xB,List.map_cons,List.sum_cons,Tp.sz];omega
 | _=>simp[xB]
theorem zMK:∀(vs:List ByteArray) (l:List Tp),(caught (vs.zip l)).length<=(l.map Tp.sz).sum
 | [],l=>by simp[caught]
 | v::vs,[]=>by simp[caught]
 | v::vs,t::l=>by
  have h1:=zMK vs l;have h2:=zM9 t;show (fv t++caught (vs.zip l)).length<=_;rw[List.length_append,List.map_cons,List.sum_cons];omega
theorem zaS {x t:Tp} {vs:List ByteArray} (hx:x.sz<=500) (ht:t.sz<=500):FitX 1000 x (bys vs t):=by
 have h1:=zMK vs (xB t).reverse;have h2:=z4F t;have h3:=zLT t;have h4:((xB t).reverse.map Tp.sz).sum=((xB t).map Tp.sz).sum:=by rw[List.map_reverse,List.sum_reverse]
 refine zBQ (by show x.sz+(caught (vs.zip (xB t).reverse)).length<=_;omega) ?_ (fun p hp=>?_) (by omega)
 ·show (vs.zip (xB t).reverse).length<=_;rw[List.length_zip,List.length_reverse];omega
 ·have hm:p.2∈(xB t).reverse:=(List.of_mem_zip hp).2;have:=(zFJ p.2 (List.mem_reverse.1 hm)).2.1;have:=jG t;omega
abbrev fnT (a b:Tp):Tp := .app (.app (.con arrow) a) b
inductive TyW (own:Nat->ByteArray) (B:Nat):Wd->Cr->Tp->Prop
 | var {w:Wd} {n:Int} {s:ByteArray} {t0 t:Tp} (hw:WOk B w) (h:xX w.env s=some t) (hs:Gs t):TyW own B w (.node 1 n s t0 .nil) t
 | con {w:Wd} {n:Int} {s:ByteArray} {t0:Tp} {f:Fd} (hw:WOk B w) (h:wW w.fs s=some f):TyW own B w (.node 2 n s t0 .nil) f.t
 | int {w:Wd} {n:Int} {s:ByteArray} {t0:Tp} (hw:WOk B w):TyW own B w (.node 3 n s t0 .nil) (.con xU)
 | app {w:Wd} {n:Int} {s:ByteArray} {t0 u u' t:Tp} {p q:Cr} (hw:WOk B w) (h1:TyW own B w p (.app (.app (.con arrow) u) t)) (h2:TyW own B w q u') (h:smb u u' [] []=true) (hs:u.sz<=1000):TyW own B w (.node 4 n s t0 (.kid p (.kid q .nil))) t
 | lam {w:Wd} {n:Int} {s:ByteArray} {t u:Tp} {p:Cr} (hw:WOk B w) (ht:t.sz<=500) (h:TyW own B (w.more [(s,w.mean t)]) p u) (hr:Gs (fnT (w.mean t) u)):TyW own B w (.node 5 n s t (.kid p .nil)) (.app (.app (.con arrow) (w.mean t)) u)
 | tapp {w:Wd} {n:Int} {s x:ByteArray} {t a:Tp} {p:Cr} (hw:WOk B w) (ht:t.sz<=500) (hm:(w.mean t).sz<=500) (ha:a.sz<=500) (h:TyW own B w p (.all x a)) (hr:Gs (sub a [(x,w.mean t)])):TyW own B w (.node 6 n s t (.kid p .nil)) (sub a [(x,w.mean t)])
 | tlam {w:Wd} {n:Int} {s:ByteArray} {t u:Tp} {p:Cr} (hw:WOk B w) (h:TyW own B (w.all s (own w.deep)) p u) (hr:Gs (.all (own w.deep) u)):TyW own B w (.node 7 n s t (.kid p .nil)) (.all (own w.deep) u)
 | bind {w:Wd} {n:Int} {s x:ByteArray} {t0 t u v:Tp} {p q:Cr} (hw:WOk B w) (ht:t.sz<=500) (h1:TyW own B (w.more [(x,w.mean t)]) q u) (h:smb u (w.mean t) [] []=true) (hs:u.sz<=1000) (h2:TyW own B (w.more [(x,w.mean t)]) p v):TyW own B w (.node 8 n s t0 (.kid p (.bind x t q .nil))) v
 | case {w:Wd} {n:Int} {s:ByteArray} {t u:Tp} {p g:Cr} (fW:Al->Wd) (fu:Al->Tp) (hw:WOk B w) (ht:t.sz<=500) (hu:u.sz<=500) (hk:g.kids=[]) (hl:g.alts.length<=1000) (h1:TyW own B w p u) (h2:∀a∈g.alts,zDN w u a=some (fW a)/\a.2.1.length<=100) (h3:∀a∈g.alts,TyW own B (fW a) a.2.2 (fu a)) (h4:∀a∈g.alts,smb (fu a) (w.mean t) [] []=true/\(fu a).sz<=1000) (hr:Gs (w.mean t)):TyW own B w (.node 9 n s t (.kid p g)) (w.mean t)
 | prim {w:Wd} {n:Int} {s:ByteArray} {t0 u v r:Tp} {p q:Cr} (hw:WOk B w) (h1:TyW own B w p u) (h2:TyW own B w q v) (hu:smb u (.con xU) [] []=true/\u.sz<=1000) (hv:smb v (.con xU) [] []=true/\v.sz<=1000) (hr:zCG s=some r):TyW own B w (.node 10 n s t0 (.kid p (.kid q .nil))) r
 | fail {w:Wd} {n:Int} {s:ByteArray} {t:Tp} (hw:WOk B w) (ht:t.sz<=500) (hr:Gs (w.mean t)):TyW own B w (.node 11 n s t .nil) (w.mean t)
theorem z2L:Gs (.con xU):=⟨by decide,⟨by decide,_,_,rfl,by decide⟩,Nat.le_of_ble_eq_true rfl⟩
theorem z6X {w:Wd} {u t:Tp} {p:Cr} (h1:OfS w p t) (h2:smb t u [] []=true) (h3:t.sz<=1000):IsT w u p:=⟨t,h1,h2,by have:=jG t;omega⟩
theorem zb5 {B:Nat} (hB:B<=60000) {w w':Wd} {t:Tp} {a:Al} (hw:WOk B w) (ht:t.sz<=500) (ha:a.2.1.length<=100) (h:zDN w t a=some w'):TkS w t a w':=by
 have hd:dp t<1000000000:=by have:=jG t;omega
 have hsp:=zLT t;unfold zDN at h;split at h
 ·rename_i h3;cases h;exact zXI w t h3
 ·split at h
  ·rename_i h2;split at h
   ·rename_i hs;cases h;exact z6W h2 hd hs
   ·cases h
  ·split at h
   ·rename_i h1;split at h
    ·cases h
    ·rename_i f hf;have hfm:f∈w.fs:=List.mem_of_find?_eq_some hf;split at h
     ·cases h
     ·rename_i l n vs hsh;split at h
      ·rename_i hc;cases h
       have hfo:=hw.fo f hfm;refine z6F (K:=1000) h1 (by have:=hw.fl;omega) hf hsh hfo.1.dp hfo.1.ar (by omega) hc (fun x hx=>?_) (by have:=hw.el;omega);refine zaS ?_ ht;unfold qF at hsh;split at hsh
       ·cases hsh
       ·rename_i vs' t0 hA;split at hsh
        ·cases hsh
        ·rename_i l' u hF;split at hsh
         ·cases hsh
          have h1:=zJE _ _ _ _ hA;have h2:=(zFM _ _ _ _ hF).2.2 x hx;omega
         ·cases hsh
      ·cases h
   ·cases h
theorem zP9 {B:Nat} (hB:B<=60000) {w:Wd} {c:Cr} {t:Tp} (h:TyW jM B w c t):OfS w c t:=by
 induction h with
 | var hw h hs=>exact jC (j:=0) (f:=116) rfl rfl rfl ((zPG (by have:=hw.el;omega)).1 _ h)
 | con hw h =>
  obtain⟨i,h1,h2,h3⟩:=zCL h;rw[<-h2];exact jC (j:=1) (f:=117) rfl rfl rfl (zYJ _ _ (by have:=hw.fl;omega) h1 h3)
 | int hw=>exact jC (j:=2) (f:=118) rfl rfl rfl (zPP _ _)
 | @app w n s t0 u u' t p q hw h1 h2 h hs i1 i2 =>
  exact jC (j:=3) (f:=119) rfl rfl rfl (zX9 (tp := .app (.app (.con arrow) u) t) rfl i1 i2 rfl h (by show dp u<_;have:=jG u;omega))
 | lam hw ht h hr ih=>exact jC (j:=4) (f:=120) rfl rfl rfl (zX5 rfl (hw.fit ht) (by have:=hw.el;omega) ih)
 | tapp hw ht hm ha h hr ih=>exact jC (j:=5) (f:=121) rfl rfl rfl (zSZ rfl (hw.fit ht) ih (z8W ha hm))
 | tlam hw h hr ih=>exact jC (j:=6) (f:=122) rfl rfl rfl (zTY rfl hw.dl (by have:=hw.pl;omega) ih)
 | @bind w n s x t0 t u v p q hw ht h1 h hs h2 i1 i2 =>
  refine jC (j:=7) (f:=123) rfl rfl rfl (zX8 (w':=w.more [(x,w.mean t)]) rfl ?_ i2);exact zO4 (w:=w) (l:=[(x,t,q)]) (by have:=hw.el;simp;omega) (by simp) (K:=1000) (fun b hb=>by rw[List.mem_singleton.1 hb];exact hw.fit ht) (fun b hb=>by rw[List.mem_singleton.1 hb];exact z6X i1 h hs)
 | @case w n s t u p g fW fu hw ht hu hk hl h1 h2 h3 h4 hr i1 i3 =>
  refine jC (j:=8) (f:=124) rfl rfl (by simp[Cr.kids,hk]) (zS2 (c := .node 9 n s t (.kid p g)) (K:=1000) (by simp[Cr.kids,hk]) i1 (hw.fit ht) (by show g.alts.length<=_;omega) fun a ha=>?_);exact⟨fW a,zb5 hB hw hu (h2 a ha).2 (h2 a ha).1,z6X (i3 a ha) (h4 a ha).1 (h4 a ha).2⟩
 | @prim w n s t0 u v r p q hw h1 h2 hu hv hr i1 i2 =>
  refine jC (j:=9) (f:=125) rfl rfl rfl (zSL (c := .node 10 n s t0 (.kid p (.kid q .nil))) (by simp[Cr.kids]) (fun x hx=>?_) hr);simp only[Cr.kids,List.mem_cons,List.not_mem_nil,or_false] at hx;rcases hx with rfl|rfl
  ·exact⟨u,i1,hu.1,by have:=jG u;omega⟩
  ·exact⟨v,i2,hv.1,by have:=jG v;omega⟩
 | fail hw ht hr=>exact jC (j:=10) (f:=126) rfl rfl rfl (zXK _ _ (hw.fit ht))
abbrev sL:ByteArray:=⟨#[76]⟩
abbrev sP:ByteArray:=⟨#[80]⟩
abbrev sN:ByteArray:=⟨#[78]⟩
abbrev sC:ByteArray:=⟨#[67]⟩
abbrev sa:ByteArray:=⟨#[97]⟩
abbrev sb9:ByteArray:=⟨#[98]⟩
abbrev sK:ByteArray:=⟨#[75,64]⟩
abbrev zcQ:ByteArray:=⟨#[70,97,108,115,101]⟩
abbrev zeI:ByteArray:=⟨#[84,114,117,101]⟩
abbrev lsT (a:Tp):Tp := .app (.con sL) a
abbrev prT (a b:Tp):Tp := .app (.app (.con sP) a) b
def fields19:List Fd:=[
 ⟨sN,0,2,0,.all sa (lsT (.var sa))⟩,
 ⟨sC,1,2,2,.all sa (fnT (.var sa) (fnT (lsT (.var sa)) (lsT (.var sa))))⟩,
 ⟨sP,0,1,2,.all sa (.all sb9 (fnT (.var sa) (fnT (.var sb9) (prT (.var sa) (.var sb9)))))⟩,
 ⟨zcQ,0,2,0,.con zDG⟩,
 ⟨zeI,1,2,0,.con zDG⟩,
 ⟨sK,0,1,2,.all sa (fnT (.var sa) (fnT (.all sb9 (fnT (.var sb9) (.var sb9))) (.app (.con sK) (.var sa))))⟩]
theorem zcZ:CoW arrow/\CoW sL/\CoW sP/\CoW sK/\CoW zDG:=⟨⟨by decide,_,_,rfl,by decide⟩,⟨by decide,_,_,rfl,by decide⟩,⟨by decide,_,_,rfl,by decide⟩,⟨by decide,_,_,rfl,by decide⟩,⟨by decide,_,_,rfl,by decide⟩⟩
theorem zcM:Wrd sa/\Wrd sb9:=⟨by decide,by decide⟩
theorem zSS:∀f∈fields19,FdOk f/\f.t.sz<=500/\f.ar<=100/\Gs f.t:=by
 intro f hf;simp only[fields19,List.mem_cons,List.not_mem_nil,or_false] at hf;rcases hf with rfl|rfl|rfl|rfl|rfl|rfl<;>refine⟨⟨by decide,by decide⟩,by decide,by decide,by decide,?_,?_⟩<;>simp[TkX,Shn,zcZ,zcM]<;>decide
theorem zLS {x s:ByteArray} (h:x≠s):∀(ps:Env') (o:Tp),look x (zBI s ps++[(s,o)])=look x ps
 | [],o=>by simp[zBI,look,Ne.symm h]
 | (y,t)::r,o=>by
  have ih:=zLS h r o;unfold zBI at ih⊢;by_cases e:y=s
  ·subst e;simp only[List.filter_cons,ne_eq,not_true_eq_false,decide_false,Bool.false_eq_true,if_false,look,if_neg (Ne.symm h)];exact ih
  ·simp only[List.filter_cons,ne_eq,e,not_false_eq_true,decide_true,if_true,List.cons_append,look];split
   ·rfl
   ·exact ih
theorem zMP {s:ByteArray}:∀(ps:Env') (o:Tp),look s (zBI s ps++[(s,o)])=some o
 | [],o=>by simp[zBI,look]
 | (y,t)::r,o=>by
  have ih:=zMP (s:=s) r o;unfold zBI at ih⊢;by_cases e:y=s
  ·subst e;simp only[List.filter_cons,ne_eq,not_true_eq_false,decide_false,Bool.false_eq_true,if_false];exact ih
  ·simp only[List.filter_cons,ne_eq,e,not_false_eq_true,decide_true,if_true,List.cons_append,look,if_neg e];exact ih
end Go.Proofs.YtdmbahepaglcbaaGreatDoor
