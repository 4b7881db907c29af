/- The same once more over frames that are lists (quick to unfold): what is shown over them holds. No condition. -/
import Derived.Test.YtebmimnglcdogaaGreatDoorFpD
import Derived.ProofKit
import Derived.OpenShut
import Derived.Deep.DeepHandedRow
import Derived.Carry
import Derived.Deep.Matrix
set_option linter.unusedSimpArgs false
set_option linter.unusedVariables false
namespace Fp
open Go
structure CE where
 vs:List (Nat×SV)
 ow:List (Nat×Nat×Nat)
 al:List Nat
 hp:List (Nat×HO)
def lookW:List (Nat×Nat×Nat)->Nat->Nat->Nat
 | [],_,_=>0
 | (i,j,n)::r,s,c=>bif Nat.beq i s then (match j with
  | 0=>0
  | j+1=>bif Nat.beq j c then n else lookW r s c) else lookW r s c
def lookA:List Nat->Nat->Bool
 | [],_=>false
 | i::r,s=>bif Nat.beq s i then true else lookA r s
def den (c:CE):Env:={vals:=yA c.vs,own:=lookW c.ow,al:=lookA c.al,heap:=c.hp}
def zJU (c:CE):U->CE
 | .val s x=>match c with|⟨vs,ow,al,hp⟩=>⟨(s,x)::vs,ow,al,hp⟩
 | .own s i n=>match c with|⟨vs,ow,al,hp⟩=>⟨vs,(s,i+1,n)::ow,al,hp⟩
 | .clr s=>match c with|⟨vs,ow,al,hp⟩=>⟨vs,(s,0,0)::ow,al,hp⟩
 | .al s=>match c with|⟨vs,ow,al,hp⟩=>⟨vs,ow,s::al,hp⟩
 | .heap h=>match c with|⟨vs,ow,al,_⟩=>⟨vs,ow,al,h⟩
def capp (c:CE):List U->CE
 | []=>c
 | u::us=>capp (zJU c u) us
theorem beq_comm (a b:Nat):Nat.beq a b=Nat.beq b a:=by
 by_cases h:a=b
 ·subst h;rfl
 ·rw[Nat.beq_ne h,Nat.beq_ne (Ne.symm h)]
theorem zD0 (c:CE) (u:U):den (zJU c u)=app1 (den c) u:=by
 cases u with
 | val s x=>exact Env.ext' (fun t=>by show yA ((s,x)::c.vs) t=zBJ (yA c.vs) s x t;simp only[yA,zBJ,beq_comm s t]) (fun _ _=>rfl) (fun _=>rfl) rfl
 | own s i n=>exact Env.ext' (fun _=>rfl) (fun t j=>by
   show lookW ((s,i+1,n)::c.ow) t j=(bif Nat.beq t s && Nat.beq j i then n else lookW c.ow t j);simp only[lookW,beq_comm s t,beq_comm i j];cases Nat.beq t s<;>cases Nat.beq j i<;>rfl) (fun _=>rfl) rfl
 | clr s=>exact Env.ext' (fun _=>rfl) (fun t j=>by
   show lookW ((s,0,0)::c.ow) t j=(bif Nat.beq t s then 0 else lookW c.ow t j);simp only[lookW,beq_comm s t]) (fun _=>rfl) rfl
 | al s=>exact Env.ext' (fun _=>rfl) (fun _ _=>rfl) (fun t=>rfl) rfl
 | heap h=>rfl
theorem yC:∀(us:List U) (c:CE),den (capp c us)=app (den c) us
 | [],_=>rfl
 | u::us,c=>by show den (capp (zJU c u) us)=app (app1 (den c) u) us;rw[yC us,zD0]
def crf:List (Nat×SV)->(List (Nat×SV)->Prop)->Prop
 | [],k=>k []
 | (s,x)::r,k=>match x with
  | .box _ a=>crf r fun r'=>k ((s,.box 0 a)::r')
  | .adB _ _ _=>crf r fun r'=>k ((s,.junk)::r')
  | .junk=>crf r fun r'=>k ((s,.junk)::r')
  | .undef=>crf r fun r'=>k ((s,.undef)::r')
  | .v a=>crf r fun r'=>k ((s,.v a)::r')
  | .adE l=>crf r fun r'=>k ((s,.adE l)::r')
theorem zEP:∀(l:List (Nat×SV)) (k:List (Nat×SV)->Prop),crf l k=k (l.map fun p=>(p.1,rfv p.2))
 | [],_=>rfl
 | (s,x)::r,k=>by cases x<;>simp only[crf,zEP r]<;>rfl
theorem zLX:∀(l:List (Nat×SV)) (s:Nat),yA (l.map fun p=>(p.1,rfv p.2)) s=rfv (yA l s)
 | [],_=>rfl
 | (i,x)::r,s=>by
  simp only[List.map_cons,yA,zLX r s];cases Nat.beq i s<;>rfl
theorem yZ (c:CE):den ⟨c.vs.map fun p=>(p.1,rfv p.2),c.ow,[],c.hp⟩=refresh (den c) :=
 Env.ext' (fun s=>zLX c.vs s) (fun _ _=>rfl) (fun _=>rfl) rfl
def cgk (ops:List Oper) (o:Oper) (c:CE) (run skip:CE->Prop):Prop:=match o.guard with
 | none=>run c
 | some (j,want)=>match gslot ops j with
  | none=>False
  | some g=>match yA c.vs g with
   | .v (.lit (.bool b))=>match b,want with
    | true,true=>run c
    | false,false=>run c
    | _,_=>skip c
   | .v (.sb b)=>(b=want->run (zJU c (.val g (.v (.lit (.bool want))))))/\(b=(!want)->skip (zJU c (.val g (.v (.lit (.bool (!want)))))))
   | .undef=>skip c
   | _=>False
section
variable {P:Program} {hp:Bool} {arr:Array Oper} {o:Oper} {T:TT}
theorem jG {c:CE} {run skip:CE->Prop} (h:cgk arr.toList o c run skip):∃c1 t,EnvEq (den c) (den c1)/\Wants arr o (den c1) t/\(t=true->run c1)/\(t=false->skip c1):=by
 have key:gk arr.toList o (den c) (fun e => ∃c1,e=den c1/\run c1) (fun e => ∃c1,e=den c1/\skip c1):=by
  unfold cgk at h;unfold gk;cases hg:o.guard with
  | none=>simp only[hg] at h⊢;exact⟨c,rfl,h⟩
  | some p =>
   obtain⟨j,want⟩:=p;simp only[hg] at h⊢;cases hgs:gslot arr.toList j with
   | none=>simp only[hgs] at h
   | some g =>
    simp only[hgs] at h⊢;have hx:(den c).vals g=yA c.vs g:=rfl;rw[hx];generalize yA c.vs g=y at h;cases y with
    | v a =>
     cases a with
     | lit v =>
      cases v with
      | bool b=>cases b<;>cases want<;>exact⟨c,rfl,h⟩
      | _=>exact h.elim
     | sb b=>exact⟨fun hb=>⟨_,(zD0 _ _).symm,h.1 hb⟩,fun hb=>⟨_,(zD0 _ _).symm,h.2 hb⟩⟩
     | _=>exact h.elim
    | undef=>exact⟨c,rfl,h⟩
    | _=>exact h.elim
 obtain⟨e1,t,q1,q2,q3,q4⟩:=zYV key;cases t with
 | true=>obtain⟨c1,rfl,h1⟩:=q3 rfl;exact⟨c1,true,q1,q2,fun _=>h1,fun h=>by cases h⟩
 | false=>obtain⟨c1,rfl,h1⟩:=q4 rfl;exact⟨c1,false,q1,q2,fun h=>(by cases h),fun _=>h1⟩
def zJG (P:Program) (T:TT) (hp:Bool) (ops:List Oper):List Oper->CE->(CE->Prop)->Prop
 | [],c,k=>match c with|⟨vs,ow,al,h⟩=>k ⟨vs,ow,al,h⟩
 | o::r,c,k=>match c with
  | ⟨vs,ow,al,h⟩=>cgk ops o ⟨vs,ow,al,h⟩ (fun c=>ay P T hp ops o (den c) fun u=>zJG P T hp ops r (capp c u) k) (fun c=>zJG P T hp ops r (capp c (putU o.dst .undef)) k)
theorem zPG {ops:List Oper} {c:CE} {k:CE->Prop} (h:zJG P T hp ops [] c k):k c:=by cases c;exact h
theorem zMK {ops:List Oper} {r:List Oper} {c:CE} {k:CE->Prop} (h:zJG P T hp ops (o::r) c k) :
  cgk ops o c (fun c=>ay P T hp ops o (den c) fun u=>zJG P T hp ops r (capp c u) k) (fun c=>zJG P T hp ops r (capp c (putU o.dst .undef)) k):=by cases c;exact h
theorem zGV (hT:zN P T) {k:CE->Prop} {Q:Exit->Act->World->Prop} {cx:Ctx} (hK:∀c g a w,k c->Rel cx g (den c) a w->Q .normal a w):∀(r:List Oper) (c:CE) (g:G) (a:Act) (w:World),
  (∀o∈r,∀d,o.dst=some d->d<cx.n)->zJG P T hp arr.toList r c k->Rel cx g (den c) a w->wpList P arr Q r a w
 | [],c,g,a,w,_,h,hR=>hK c g a w (zPG h) hR
 | o::r,c,g,a,w,hd,h,hR=>by
  obtain⟨c1,t,q1,q2,q3,q4⟩:=jG (zMK h);have hw:=q2 cx g (den c1) a w (Agree.refl _ _) (hR.eqv q1);unfold wpList;have hdo:=hd o List.mem_cons_self;cases t with
  | true =>
   rw[if_pos hw];refine .inl (zTU hT (q3 rfl) cx g a w hdo (hR.eqv q1) _ _ fun u g' a' w' hu hR'=>?_);exact zGV hT hK r _ g' a' w' (fun o' ho'=>hd o' (List.mem_cons_of_mem _ ho')) hu (by rw[yC];exact hR')
  | false =>
   rw[if_neg (by rw[hw];simp)];exact zGV hT hK r _ g _ w (fun o' ho'=>hd o' (List.mem_cons_of_mem _ ho')) (q4 rfl) (by rw[yC];exact (hR.eqv q1).putU hdo (fun d=>(rfl:SlotOk g w d .undef undef)))
theorem ctrace (hT:zN P T) {k:CE->Prop}:∀(r:List Oper) (c:CE) (e0:Env),zJG P T false arr.toList r c k->EnvEq e0 (den c)->∃us,Trace P arr r e0 us/\∃c',k c'/\EnvEq (zAD e0 us) (den c')
 | [],c,e0,h,q=>⟨[],rfl,c,zPG h,q⟩
 | o::r,c,e0,h,q=>by
  obtain⟨c1,t,q1,q2,q3,q4⟩:=jG (zMK h);have q01:=q.trans q1;cases t with
  | true =>
   obtain⟨u,h1,h2,h3⟩:=zDR hT (q3 rfl);obtain⟨us,k1,c',k2,k3⟩:=ctrace hT r _ (app e0 u) h3 (by rw[yC];exact q01.app u);exact⟨u::us,⟨u,us,rfl,⟨h2,.inl ⟨q2.agree (q01.agree _),h1.agree (q01.agree _)⟩⟩,k1⟩,c',k2,k3⟩
  | false =>
   obtain⟨us,k1,c',k2,k3⟩:=ctrace hT r _ (app e0 (putU o.dst .undef)) (q4 rfl) (by rw[yC];exact q01.app _);exact⟨_::us,⟨_,us,rfl,⟨by rw[zZ];exact Sub.inl,.inr ⟨q2.agree (q01.agree _),rfl⟩⟩,k1⟩,c',k2,k3⟩
theorem zLH (hT:zN P T) (hm:P.follows .mixedOrders=true) (hc:zJJ arr.toList=true) {k:CE->Prop} {Q:Exit->Act->World->Prop} {cx:Ctx} (hd:∀o∈arr.toList,∀d,o.dst=some d->d<cx.n)
  (hK:∀c g a w,k c->Rel cx g (den c) a w->Q .normal a w) {id:Nat} {g:G} {a:Act} {w:World} {e:Env} {c:CE} (hce:den c=Fp.refresh e) (h:zJG P T false arr.toList arr.toList c k) (hR:Rel cx g e a w):(Code.region id arr true).wp P Q a w:=by
 obtain⟨g1,hR1⟩:=(hR.grow (Grow.drew w)).refresh;obtain⟨us,h1,c',h2,h3⟩:=ctrace hT arr.toList c (Fp.refresh e) h (by rw[hce];exact EnvEq.refl _);refine wp_region_any hm (zQ0 (zLE hc) hd h1 (fun g a w hR=>hK c' g a w h2 (hR.eqv h3)) arr.size _ g1 a _ (by simp) ?_ (fun k o _ hl=>?_) ?_)
 ·unfold left;exact Nat.le_trans (List.length_filter_le _ _) (by simp)
 ·rcases Nat.lt_or_ge k arr.size with hk|hk<;>simp[hk] at hl
 ·rw[zBR us 0 _ _ (fun j=>by rcases Nat.lt_or_ge j arr.size with hk|hk<;>simp[hk])];exact hR1
end
def owC:List (Nat×Nat×Nat)->List (Nat×Nat×Nat)
 | []=>[]
 | (s,c,n)::r=>(s,c+1,n)::owC r
theorem zMI:∀(l:List (Nat×Nat×Nat)) (s c:Nat),lookW (owC l) s c=lookO l s c
 | [],_,_=>rfl
 | (i,j,n)::r,s,c=>by
  simp only[owC,lookW,lookO,zMI r s c];cases Nat.beq i s<;>cases Nat.beq j c<;>rfl
def mkC (f:Fr):CE:=match f with|⟨vs,ow,hp⟩=>⟨vs,owC ow,[],hp⟩
theorem zBB (f:Fr):den (mkC f)=mkE f:=Env.ext' (fun _=>rfl) (fun s c=>zMI f.ow s c) (fun _=>rfl) rfl
def crefine (o:Operand) (b:Bool) (c:CE):CE:=match o with
 | .tmp t=>zJU c (.val t (.v (.lit (.bool b))))
 | _=>c
theorem xZ (o:Operand) (b:Bool) (c:CE):den (crefine o b c)=zTL o b (den c):=by
 cases o<;>first|rfl|exact zD0 _ _
def Wc (P:Program) (T:TT):Code->CE->(CE->Prop)->(Nat->CE->Prop)->(CE->Prop)->Prop
 | .skip,c,n,_,_=>n c
 | .region _ ops draw,c,n,_,_=>match c with
  | ⟨vs,ow,_,hp⟩=>crf vs fun vs=>match draw with
   | true=>zJG P T false ops.toList ops.toList ⟨vs,ow,[],hp⟩ n
   | false=>zJG P T true ops.toList ops.toList ⟨vs,ow,[],hp⟩ n
 | .seq a b,c,n,x,r=>Wc P T a c (fun c=>Wc P T b c n x r) x r
 | .cond o a b,c,n,x,r=>match opd (den c) o with
  | .v (.lit (.bool t))=>match t with
   | true=>Wc P T a c n x r
   | false=>Wc P T b c n x r
  | .v (.sb t)=>(t=true->Wc P T a (crefine o true c) n x r)/\(t=false->Wc P T b (crefine o false c) n x r)
  | _=>False
 | .block i q,c,n,x,r=>Wc P T q c n (fun j c=>match Nat.beq j i with|true=>n c|false=>x j c) r
 | .loop q,c,_,x,r => ∃(α:Type) (I:α->Fr) (μ:α->Nat) (y:α),le (den c) (I y)/\∀y,Wc P T q (mkC (I y)) (fun c => ∃z,μ z<μ y/\le (den c) (I z)) x r
 | .exit i,c,_,x,_=>x i c
 | .scope q,c,n,x,r=>Wc P T q c n x r
 | .label _,c,n,_,_=>n c
 | .ret,c,_,_,r=>r c
 | _,_,_,_,_=>False
def zEE (cx:Ctx) (n:CE->Prop) (x:Nat->CE->Prop) (r:CE->Prop):Exit->Act->World->Prop
 | .normal,a,w => ∃c g,n c/\Rel cx g (den c) a w
 | .exit i,a,w => ∃c g,x i c/\Rel cx g (den c) a w
 | .ret,a,w => ∃c g,r c/\Rel cx g (den c) a w
 | _,_,_=>False
section
variable {P:Program} {T:TT}
theorem zZ8 (hT:zN P T) (hm:P.follows .mixedOrders=true) {cx:Ctx}:∀(q:Code) (c:CE) (n:CE->Prop) (x:Nat->CE->Prop) (r:CE->Prop),codeOk cx.n q=true->Wc P T q c n x r ->
  ∀g a w,Rel cx g (den c) a w->q.wp P (zEE cx n x r) a w:=by
 intro q;induction q with
 | skip=>intro c n x r _ h g a w hR;exact Go.wp_skip ⟨c,g,h,hR⟩
 | region id ops draw =>
  intro c n x r hk h g a w hR;simp only[codeOk,Bool.and_eq_true,List.all_eq_true] at hk;have hd:∀o∈ops.toList,∀d,o.dst=some d->d<cx.n:=fun o ho d hd=>by
   have:=hk.1 o ho;rw[hd] at this;exact Nat.le_of_ble_eq_true this
  have hK:∀c g a w,n c->Rel cx g (den c) a w->zEE cx n x r .normal a w:=fun c g a w h1 h2=>⟨c,g,h1,h2⟩
  obtain⟨vs,ow,al,hp⟩:=c;unfold Wc at h;simp only[zEP] at h;cases draw with
  | true=>exact zLH hT hm hk.2 hd hK (yZ ⟨vs,ow,al,hp⟩) h hR
  | false =>
   obtain⟨g',hR'⟩:=hR.refresh;exact wp_region_list (zGV hT hK _ _ g' a w hd h (by rw[yZ ⟨vs,ow,al,hp⟩];exact hR'))
 | seq p q ihp ihq =>
  intro c n x r hk h g a w hR;simp only[codeOk,Bool.and_eq_true] at hk;refine wp_seq (Go.wp_mono (ihp c _ x r hk.1 h g a w hR) fun ex a w hp=>?_);cases ex with
  | normal=>obtain⟨c',g',h1,h2⟩:=hp;exact ihq c' n x r hk.2 h1 g' a w h2
  | _=>exact hp
 | cond o p q ihp ihq =>
  intro c n x r hk h g a w hR;simp only[codeOk,Bool.and_eq_true] at hk;have hag:=Agree.refl (zJ o) (den c);unfold Wc at h;split at h
  ·rename_i t ho;have hv:=(zF hag hR (Sub.refl _) ho).lit_eq.1;cases t with
   | true=>exact wp_cond_true hv (ihp c n x r hk.1 h g a w hR)
   | false=>exact wp_cond_false hv (ihq c n x r hk.2 h g a w hR)
  ·rename_i t ho;have hv:=(zF hag hR (Sub.refl _) ho).sb_eq;have hR':=zFO hR ho;cases t with
   | true=>exact wp_cond_true hv (ihp _ n x r hk.1 (h.1 rfl) g a w (by rw[xZ];exact hR'))
   | false=>exact wp_cond_false hv (ihq _ n x r hk.2 (h.2 rfl) g a w (by rw[xZ];exact hR'))
  ·exact h.elim
 | block i q ih =>
  intro c n x r hk h g a w hR;refine wp_block (Go.wp_mono (ih c n _ r hk h g a w hR) fun ex a w hp=>?_);cases ex with
  | normal=>exact hp
  | exit j =>
   obtain⟨c',g',h1,h2⟩:=hp;simp only[Exit.inBlock];by_cases hj:j=i
   ·rw[if_pos hj];subst hj;rw[Nat.beq_refl] at h1;exact⟨c',g',h1,h2⟩
   ·rw[if_neg hj];rw[Nat.beq_ne hj] at h1;exact⟨c',g',h1,h2⟩
  | _=>exact hp
 | loop q ih =>
  intro c n x r hk h g a w hR;obtain⟨α,I,μ,y,h1,h2⟩:=h;obtain⟨g0,hR0⟩:=hR.le h1;generalize hSS:(fun (a:Act) (w:World) (m:Nat) => ∃y g,μ y=m/\Rel cx g (mkE (I y)) a w)=S;have hS1:∀{a:Act} {w:World} {m:Nat},(∃y g,μ y=m/\Rel cx g (mkE (I y)) a w)->S a w m:=fun h=>by rw[<-hSS];exact h
  have hS2:∀{a:Act} {w:World} {m:Nat},S a w m->(∃y g,μ y=m/\Rel cx g (mkE (I y)) a w):=fun h=>by rw[<-hSS] at h;exact h
  refine wp_loop (fun a w => ∃m,S a w m) (fun a w=>least (S a w)) ⟨μ y,hS1 ⟨y,g0,rfl,hR0⟩⟩ fun a w hS=>?_;obtain⟨y1,g1,h3,h4⟩:=hS2 (yX hS).1;refine Go.wp_mono (ih (mkC (I y1)) _ x r hk (h2 y1) g1 a w (by rw[zBB];exact h4)) fun ex a' w' hp=>?_;cases ex with
  | normal =>
   obtain⟨c',g',⟨z,h5,h6⟩,h7⟩:=hp;obtain⟨g2,h8⟩:=h7.le h6;have hz:S a' w' (μ z):=hS1 ⟨z,g2,rfl,h8⟩;refine⟨⟨_,hz⟩,?_⟩;have:=(yX ⟨_,hz⟩).2 _ hz;omega
  | _=>exact hp
 | scope q ih =>
  intro c n x r hk h g a w hR;refine wp_scope_straight (Go.wp_mono (ih c n x r hk h g a w hR) fun ex a w hp=>?_);cases ex<;>exact hp
 | label l=>intro c n x r _ h g a w hR;exact wp_label ⟨c,g,h,hR⟩
 | exit i=>intro c n x r _ h g a w hR;exact wp_exit ⟨c,g,h,hR⟩
 | ret=>intro c n x r _ h g a w hR;exact wp_ret ⟨c,g,h,hR⟩
 | rangeFunc=>intro c n x r _ h;exact h.elim
 | goto=>intro c n x r _ h;exact h.elim
 | refuse=>intro c n x r _ h;exact h.elim
end
def zRW:Nat->List AV->List (Nat×SV)
 | _,[]=>[]
 | n,a::r=>(n,.v a)::zRW (n+1) r
def zN6:Nat->List Nat->List (Nat×Nat×Nat)
 | _,[]=>[]
 | n,k::r=>(n,1,k)::zN6 (n+1) r
def xN (args:List AV) (os:List Nat) (hin:List (Nat×HO)):CE:=⟨zRW 0 args,zN6 0 os,[],hin⟩
theorem zLL:∀(l:List AV) (n s:Nat),yA (zRW n l) (n+s)=match l[s]? with|some a => .v a|none => .junk
 | [],_,_=>rfl
 | a::r,n,0=>by simp only[zRW,yA,Nat.add_zero,Nat.beq_self,cond_true];rfl
 | a::r,n,s+1=>by
  simp only[zRW,yA,Nat.beq_ne (show n≠n+(s+1) by omega),cond_false];rw[show n+(s+1)=n+1+s by omega,zLL r (n+1) s]
  rfl
theorem zL7:∀(l:List Nat) (n s:Nat),lookW (zN6 n l) (n+s) 0=match l[s]? with|some a=>a|none=>0
 | [],_,_=>rfl
 | a::r,n,0=>by simp only[zN6,lookW,Nat.add_zero,Nat.beq_self,cond_true];rfl
 | a::r,n,s+1=>by
  simp only[zN6,lookW,Nat.beq_ne (show n≠n+(s+1) by omega),cond_false];rw[show n+(s+1)=n+1+s by omega,zL7 r (n+1) s]
  rfl
theorem zTF:∀(l:List Nat) (n s c:Nat),lookW (zN6 n l) s (c+1)=0
 | [],_,_,_=>rfl
 | a::r,n,s,c=>by
  simp only[zN6,lookW,zTF r (n+1) s c,Nat.beq_ne (show 0≠c+1 by omega),cond_false];cases Nat.beq n s<;>rfl
theorem xH (args:List AV) (os:List Nat) (hin:List (Nat×HO)) (s:Nat):(den (xN args os hin)).vals s=(zJ3 args os hin).vals s∨(den (xN args os hin)).vals s = .junk:=by
 show yA (zRW 0 args) s=(match args[s]? with|some a => .v a|none => .undef)∨yA (zRW 0 args) s = .junk;have:=zLL args 0 s;rw[Nat.zero_add] at this;rw[this];cases args[s]? with
 | none=>exact .inr rfl
 | some a=>exact .inl rfl
theorem wF (args:List AV) (os:List Nat) (hin:List (Nat×HO)) (s c:Nat):(den (xN args os hin)).own s c=(zJ3 args os hin).own s c:=by
 show lookW (zN6 0 os) s c=_;cases c with
 | zero =>
  have:=zL7 os 0 s;rw[Nat.zero_add] at this;rw[this];unfold zJ3;simp only[];cases os[s]?<;>rfl
 | succ c=>rw[zTF];rfl
theorem Rel.weaken {cx:Ctx} {g:G} {e e':Env} {a:Act} {w:World} (h:Rel cx g e a w) (hv:∀s,e'.vals s=e.vals s∨e'.vals s = .junk) (ho:∀s c,e'.own s c=e.own s c) (hal:∀s,e'.al s=e.al s) (hh:e'.heap=e.heap):Rel cx g e' a w:=by
 refine {h with slots:=fun s=>?_,own:=fun s c sz v h1 h2=>?_,heap:=hh ▸ h.heap,heapO:=hh ▸ h.heapO,al:=fun b s hb=>by rw[hal s];exact h.al b s hb}
 ·rcases hv s with q|q
  ·rw[q];exact h.slots s
  ·rw[q];trivial
 ·rcases hv s with q|q
  ·rw[q] at h2;exact h.own s c sz v (by rw[<-ho s c];exact h1) h2
  ·rw[q] at h2;exact h2.elim
section
variable {P:Program} {T:TT}
theorem zHW (hT:zN P T) (hm:P.follows .mixedOrders=true) {f:Nat} {fn:Func} {c:Code} (hf:P.funcs[f]? = some fn) (hb:fn.body=some c) {vs:List Value} {args:List AV} {os:List Nat} {hin:List (Nat×HO)}
  (hlen:args.length<=fn.ntmps) (hk:codeOk fn.ntmps c=true) {post:AV->Nat->List (Nat×HO)->Prop} {F:Nat->Option Nat} {w:World}
  (hw:Wc P T c (xN args os hin) (fun c=>xA T fn.results.toList post (den c)) (fun _ _=>False) (fun c=>xA T fn.results.toList post (den c)))
  (hfr:Fresh F w) (hh:HeapIn F w hin) (ha:qQ F w vs args os) (hy:∀b∈zS vs os,b∉keys hin):Calls P f vs.toArray w (yJ F (keys hin) (zS vs os) w post):=by
 obtain⟨g,hR⟩:=wV hfr hh ha hy (n:=fn.ntmps) (by rw[ha.len];exact hlen);refine calls_of_wp hf hb (Go.wp_mono (zZ8 hT hm c _ _ _ _ hk hw g _ _ (hR.weaken (xH args os hin) (wF args os hin) (fun _=>rfl) rfl)) fun ex a w' hp=>?_);have fin:∀{e:Env} {g:G},xA T fn.results.toList post e->Rel {n:=fn.ntmps,W:=w,F:=F,hk:=keys hin,yk:=zS vs os} g e a w'->a.defers=[]/\∃v,(results fn a.tmps).run P w' = .ok v w'/\yJ F (keys hin) (zS vs os) w post (.returned v) w':=fun {e g} hr hR=>by
  unfold xA at hr;split at hr
  ·rename_i r hres;obtain⟨v,p1,p2,p3⟩:=wM hT hR hres;refine⟨hR.defers,v,p1,v,r,_,e.heap,g.F,rfl,hr,p2,fun sz ho=>?_,hR.kept,hR.fext,hR.fresh,hR.heap,fun b hb=>?_⟩
   ·obtain⟨q1,q2⟩:=p3 sz ho;refine⟨q1,fun b hb=>?_⟩;obtain⟨s,hs⟩:=q2 b hb;by_cases h1:b∈zS vs os
    ·exact .inl h1
    ·refine .inr ⟨?_,fun hk=>by have:=hR.heapO b hk;rw[hs] at this;cases this⟩;rcases Nat.lt_or_ge b w.heap.size with h2|h2
     ·rcases hR.old b h2 h1 with h3|⟨_,h3⟩<;>(rw[hs] at h3;cases h3)
     ·exact h2
   ·rcases Nat.lt_or_ge b w.heap.size with h2|h2
    ·exact .inl (hR.hkin b h2 (hR.heapO b hb))
    ·exact .inr h2
  ·exact hr.elim
 cases ex with
 | normal=>obtain⟨e,g',h1,h2⟩:=hp;exact fin h1 h2
 | ret=>obtain⟨e,g',h1,h2⟩:=hp;exact fin h1 h2
 | exit i=>obtain⟨e,g',h1,h2⟩:=hp;exact h1.elim
 | goto l=>exact hp.elim
 | panic ch=>exact hp.elim
 | outgrown=>exact hp.elim
theorem zFE (hT : zN P T) (hm : P.follows .mixedOrders = true) {f : Nat} {fn : Func} {c : Code} (hf : P.funcs[f]? = some fn) (hb : fn.body = some c) (hname : (fn.name == "runtime.NumGoroutine") = false) {first cap : List Value} {args : List AV} {os : List Nat} {hin : List (Nat × HO)}
  (hone:(first++cap).all (·.oneCell')=true) (hos:os.length<=args.length) (hlen:first.length+(args.length+cap.length)<=fn.ntmps) (hk:codeOk fn.ntmps c=true) {post:AV->Nat->List (Nat×HO)->Prop}
  (hw:Wc P T c (xN (first.map AV.lit++(args++cap.map AV.lit)) (List.replicate first.length 0++os) hin) (fun c=>xA T fn.results.toList post (den c)) (fun _ _=>False) (fun c=>xA T fn.results.toList post (den c))) :
  CallsG P (.func (.func f) first.toArray cap.toArray) hin args os post:=by
 refine⟨f,_,_,rfl,⟨fn,hf,by rw[hb];rfl,hname⟩,fun F w vs hfr hh ha hy=>?_⟩;have e1:first.toArray++vs.toArray++cap.toArray=(first++(vs++cap)).toArray:=by simp
 have e2:zS (first++(vs++cap)) (List.replicate first.length 0++os)=zS vs os:=by rw[zB3,zC7 _ _ _ (by rw[ha.len];exact hos)]
 have ho1:∀v∈first++cap,v.oneCell'=true:=List.all_eq_true.1 hone
 rw[e1,<-e2];refine zHW hT hm hf hb (by simp;omega) hk hw hfr hh ⟨by simp[ha.len],fun i v a hv hax=>?_,fun i v sz hv ho=>?_,by rw[e2];exact ha.apart⟩ (by rw[e2];exact hy)
 ·rcases Nat.lt_or_ge i first.length with h|h
  ·rw[List.getElem?_append_left h] at hv;rw[List.getElem?_append_left (by simpa using h),List.getElem?_map,hv] at hax;simp at hax;subst hax;exact .lit v (ho1 v (List.mem_append.2 (.inl (List.mem_of_getElem? hv))))
  ·rw[List.getElem?_append_right h] at hv;rw[List.getElem?_append_right (by simpa using h)] at hax;simp only[List.length_map] at hax;rcases Nat.lt_or_ge (i-first.length) vs.length with h2|h2
   ·rw[List.getElem?_append_left h2] at hv;rw[List.getElem?_append_left (by rw[<-ha.len];exact h2)] at hax;exact ha.rep _ v a hv hax
   ·rw[List.getElem?_append_right h2] at hv;rw[List.getElem?_append_right (by rw[<-ha.len];exact h2),<-ha.len,List.getElem?_map,hv] at hax;simp at hax;subst hax;exact .lit v (ho1 v (List.mem_append.2 (.inr (List.mem_of_getElem? hv))))
 ·rcases Nat.lt_or_ge i first.length with h|h
  ·rw[List.getElem?_append_left (by simpa using h),List.getElem?_replicate] at ho;rw[if_pos h] at ho;cases ho
  ·rw[List.getElem?_append_right (by simpa using h)] at ho;simp only[List.length_replicate] at ho;rw[List.getElem?_append_right h] at hv;have:i-first.length<vs.length:=by
    have:=(List.getElem?_eq_some_iff.1 ho).1;rw[ha.len];omega
   rw[List.getElem?_append_left this] at hv;exact ha.tip _ v sz hv ho
theorem zD (hT : zN P T) (hm : P.follows .mixedOrders = true) {f : Nat} {fn : Func} {c : Code} (hf : P.funcs[f]? = some fn) (hb : fn.body = some c) (hname : (fn.name == "runtime.NumGoroutine") = false) {args : List AV}
  (hlen:args.length<=fn.ntmps) (hk:codeOk fn.ntmps c=true) {r:AV}
  (hw:Wc P T c (xN args [] []) (fun c=>zH1 T fn.results.toList r (den c)) (fun _ _=>False) (fun c=>zH1 T fn.results.toList r (den c))):zB P f args r:=by
 refine⟨f,_,_,rfl,⟨fn,hf,by rw[hb];rfl,hname⟩,fun F w vs hfr hh ha hy=>?_⟩;have e1 : #[]++vs.toArray ++ #[]=vs.toArray:=by simp
 rw[e1];refine (zHW hT hm hf hb hlen hk (post:=fun r' _ _=>r'=r) ?_ hfr hh ha hy).mono fun en w' hp=>?_
 ·exact hw
 ·obtain⟨v,r',n,hout,F',rfl,p1,p2,p3,p4,p5,p6,p7,p8⟩:=hp;exact⟨v,r',0,[],F',rfl,⟨p1,rfl,rfl⟩,p2,fun sz h=>(by cases h),p4,p5,p6,⟨List.nodup_nil,fun b hb=>by simp[keys] at hb,fun x hx=>by simp at hx⟩,fun b hb=>by simp[keys] at hb⟩
end
inductive Tp where
 | no
 | mt (n:Int)
 | var (s:ByteArray)
 | con (s:ByteArray)
 | app (a b:Tp)
 | all (s:ByteArray) (a:Tp)
 deriving DecidableEq
namespace Tp
def form:Tp->Int|no=>0|mt _=>1|var _=>2|con _=>3|app _ _=>4|all _ _=>5
def num:Tp->Int|mt n=>n|_=>0
def nam:Tp->ByteArray|var s=>s|con s=>s|all s _=>s|_ => .empty
def args:Tp->List Tp|app a b=>[a,b]|all _ a=>[a]|_=>[]
def eArgs:Tp->List AV
 | app a b=>[.agg [.lit (.int .i64 a.form),.lit (.int .i64 a.num),.lit (.string a.nam),.sl a.eArgs],.agg [.lit (.int .i64 b.form),.lit (.int .i64 b.num),.lit (.string b.nam),.sl b.eArgs]]
 | all _ a=>[.agg [.lit (.int .i64 a.form),.lit (.int .i64 a.num),.lit (.string a.nam),.sl a.eArgs]]
 | _=>[]
end Tp
def InR (n:Int):Prop := -9223372036854775808<=n/\n<9223372036854775808
def Tp.sz:Tp->Nat
 | .app a b=>1+sz a+sz b
 | .all _ a=>1+sz a
 | _=>1
def eTy (t:Tp):AV := .agg [.lit (.int .i64 t.form),.lit (.int .i64 t.num),.lit (.string t.nam),.sl t.eArgs]
def zQ (l:List Tp):List AV:=l.map eTy
def eSs (l:List ByteArray):List AV:=l.map fun s => .lit (.string s)
def eIs (l:List Int):List AV:=l.map fun s => .lit (.int .i64 s)
theorem Tp.is_app {t:Tp} (h:t.form=4):∃a b,t = .app a b:=by cases t<;>first|exact⟨_,_,rfl⟩|(simp[Tp.form] at h;done)
theorem Tp.is_all {t:Tp} (h:t.form=5):∃s a,t = .all s a:=by cases t<;>first|exact⟨_,_,rfl⟩|(simp[Tp.form] at h;done)
theorem Tp.is_var {t:Tp} (h:t.form=2):∃s,t = .var s:=by cases t<;>first|exact⟨_,rfl⟩|(simp[Tp.form] at h;done)
theorem Tp.eArgs_eq (t:Tp):t.eArgs=zQ t.args:=by cases t<;>rfl
abbrev arrow:ByteArray:=⟨#[45,62]⟩
open Go Go.ChangeShapes Go.WideShapes Go.ChangeAt Go.RowKit
abbrev noF:Nat->Option Nat:=fun _=>none
theorem z1J (b k:Nat):com noF b k:=fun m h=>by cases h
theorem z4O {n:Int} (h:(Lit.int .i64 n).wf=true):InR n:=by
 simp[Lit.wf,IntKind.min,IntKind.max,IntKind.signed,IntKind.bits] at h;unfold InR;omega
section
variable {H:Type} {enc:TypeId×Value->H} {P:Program}
theorem zSN {w:World} {base:Nat} {held:Bool} {t e:TypeId} {v:Value} {d:DataW H} {p:List MemPlace} (ht:P.underlying t=some (.slice e)) (he:P.underlying e=some (.int .i64)) (hc:P.cellsOf e=1)
  (hd:DataW.Trod enc P w base (fun _=>true) held t v d p) (hv:v.cells.toList=[v]):∃l:List Int,Rep noF w v (.sl (eIs l))/\(∀x∈l,InR x)/\l.length<9223372036854775808:=by
 obtain⟨fuel,hd⟩:=hd;rw[hv] at hd;rcases open_ints ht he hc hd with⟨h1,_⟩|⟨a,len,cap,zs,h1,hb,hl,hm,hz,_,hcell,hw⟩
 ·injection h1 with h1
  subst h1;exact⟨[],.slNil,by simp,by simp⟩
 ·injection h1 with h1
  subst h1;have hml:maxLen=9223372036854775807:=by decide
  have hz:zs.length=cap:=hz;have hle:len<=zs.length:=by omega
  refine⟨zs.take len,?_,fun x hx=>z4O (hw x (List.mem_of_mem_take hx)),by simp;omega⟩;by_cases h0:zs.length=0
  ·have hl0:len=0:=by omega
   have hc0:cap=0:=by omega
   subst hl0;subst hc0;exact .slZ a
  ·have h00:=hcell 0 (by omega);have hsp:a=⟨a.block,a.off,none⟩:=by
    have:a.add 0=a:=rfl;rw[this] at h00;unfold World.cell? at h00;cases hs:a.spot with
    | none=>cases a;simp at hs;subst hs;rfl
    | some q=>split at h00<;>simp[hs] at h00
   rw[hsp];refine .sl a.block a.off len cap 1 _ (fun i => .int .i64 (zs.getD i 0)) (by simp[eIs];omega) hl (fun x hx=>?_) (fun x hx c hcx=>?_) (fun k hk=>⟨?_,z1J _ _⟩) (fun i x j c hx hj=>?_)
   ·obtain⟨y,_,rfl⟩:=List.mem_map.1 hx;rfl
   ·obtain⟨y,_,rfl⟩:=List.mem_map.1 hx;simp[AV.cells] at hcx;subst hcx;rfl
   ·have:=hcell k (by omega);rw[hsp,Addr.add_at] at this;exact this
   ·simp only[eIs,List.getElem?_map] at hx;cases hy:(zs.take len)[i]? with
    | none=>rw[hy] at hx;simp at hx
    | some y =>
     rw[hy] at hx;simp at hx;subst hx;have hj0:j=0:=by have:=(List.getElem?_eq_some_iff.1 hj).1;simp[AV.cells] at this;exact this
     subst hj0;simp[AV.cells] at hj;subst hj;have hi:i<len:=by have:=(List.getElem?_eq_some_iff.1 hy).1;simp at this;omega
     rw[List.getElem?_take_of_lt hi] at hy;have:zs.getD (i*1+0) 0=y:=by simp[List.getD,hy]
     rw[this];exact .lit _ rfl
theorem zEJ {W W':World} (hl:laidOutB P=true) (hb:Below W.heap.size W W'):∀{ts:List TypeId} {vs:List Value} {ds:List (DataW H)} {ps:List MemPlace},(∀t∈ts,P.readableRec t=true/\t<P.types.size) ->
  DataW.TrodAll enc P W 0 (fun _=>true) true ts vs ds ps->(∀x∈ps,x.block<W.heap.size)->DataW.TrodAll enc P W' 0 (fun b=>decide (b<W.heap.size)) true ts vs ds ps
 | [],[],[],ps,_,h,_=>h
 | t::ts,v::vs,d::ds,ps,hr,h,hlt=>by
  obtain⟨p,q,h1,h2,rfl⟩:=h;obtain⟨r1,r2⟩:=hr t List.mem_cons_self;exact⟨p,q,Below.trod hl r1 r2 h1 hb (fun x hx=>hlt x (List.mem_append.2 (.inl hx))),zEJ hl hb (fun t ht=>hr t (List.mem_cons_of_mem _ ht)) h2 (fun x hx=>hlt x (List.mem_append.2 (.inr hx))),rfl⟩
 | [],_::_,_,_,_,h,_=>h.elim
 | [],[],_::_,_,_,h,_=>h.elim
 | _::_,[],_,_,_,h,_=>h.elim
 | _::_,_::_,[],_,_,h,_=>h.elim
theorem zWQ {f:Func} {s:ChangeSpec} {W W':World} {args:Array Value} {ds gs:List (DataW H)} {before:List MemPlace} {tb:TypeId} (hW:DataW.Whole enc P f.params.toList s.vars false W args.toList ds gs before) (hb:Below W.heap.size W W')
  (hl:laidOutB P=true) (hread:∀t∈f.params.toList,P.readableRec t=true/\t<P.types.size) (hr:f.resultTypes = #[tb]) (hbool:P.underlying tb=some .bool) (hv:s.vars=[]) (hs:s.fn H (ds++gs)={results:=[.lit (.bool true)],args:=ds}) :
  s.post enc P f false true false false W args (.bool true) W':=by
 have hW':=hW;obtain⟨p,q,hA,hV,rfl,hfz,hnd⟩:=hW;rw[hv] at hV;obtain⟨rfl,rfl⟩:=trodVars_none hV;have hlt:∀x∈p++[],x.block<W.heap.size:=fun x hx=>by simpa using hW'.lt x hx
 refine⟨ds,[],p++[],[],p,[],hW',?_,?_,?_,hb.frame _,fun h=>by cases h⟩
 ·rw[hs,hr];exact trodAll_mk1 (shut_bool hbool true)
 ·rw[hs];exact zEJ hl hb hread hA (fun x hx=>hlt x (by simp[hx]))
 ·rw[hs,hv];rfl
theorem zVR {f:Nat} {args:List AV} {vs:List Value} {W:World} (hc:zB P f args (.sb true)) (hlen:vs.length=args.length) (hrep:∀(i:Nat) v a,vs[i]? = some v->args[i]? = some a->Rep noF W v a) :
  Calls P f vs.toArray W fun e W'=>e = .returned (.bool true)/\Below W.heap.size W W':=by
 obtain⟨f',first,cap,he,_,hcalls⟩:=hc;injection he with e1 e2 e3
 injection e1 with e1
 subst e1;subst e2;subst e3;have hy:zS vs []=[]:=by cases vs<;>rfl
 have:=hcalls noF W vs (fun _ _=>rfl) ⟨List.nodup_nil,fun b hb=>by simp[keys] at hb,fun x hx=>by simp at hx⟩ ⟨hlen,hrep,fun i v sz _ h=>by simp at h,by rw[hy];exact List.nodup_nil⟩ (fun b hb=>by rw[hy] at hb;simp at hb);rw[show #[]++vs.toArray ++ #[]=vs.toArray by simp] at this;refine this.mono fun e W' hp=>?_;obtain⟨v,r,o,hout,F',rfl,⟨rfl,_,_⟩,p2,_,p4,_⟩:=hp;refine⟨by rw[p2.sb_eq],p4.os,p4.tape,p4.output,p4.size,fun k hk=>?_⟩;rcases p4.block k hk with h|⟨h,_⟩|h
 ·simp[keys] at h
 ·rw[hy] at h;simp at h
 ·exact h
end
section
variable {H:Type} {enc:TypeId×Value->H} {P:Program}
end
section
variable {P:Program}
theorem z1E {fv:Value} {args:List AV} {a0:AV} {l0:List AV} {esz:Nat} (hu:Uni esz l0) (hcell:∀x∈l0,∀c∈x.cells,c.isCell=true)
  (hc:CallsG P fv [] args [] fun r o h=>o=0/\((l0=[]/\r = .tup [a0,.lit (.slice none 0 0)]/\h=[])∨∃b cap rest,l0.length<=cap/\r = .tup [a0,.lit (.slice (some ⟨b,0,none⟩) l0.length cap)]/\h=[(b,HO.cells (l0.flatMap AV.cells++rest))])) :
  zE4 P fv args (.tup [a0,.sl l0]):=by
 obtain⟨f,first,cap,he,hen,hcalls⟩:=hc;refine⟨f,first,cap,he,hen,fun F w vs h1 h2 h3 h4=>(hcalls F w vs h1 h2 h3 h4).mono fun e w' hp=>?_⟩;obtain⟨v,r,o,hout,F',rfl,⟨rfl,hpost⟩,p2,p3,p4,p5,p6,p7,p8⟩:=hp;rcases hpost with⟨rfl,rfl,rfl⟩|⟨b,cap,rest,hcap,rfl,rfl⟩
 ·obtain⟨cs,rfl,hs,hr⟩:=p2.tup_eq;refine⟨.tuple cs,_,0,[],F',rfl,⟨rfl,rfl,rfl⟩,.tup cs _ hs (fun j u c hu hc=>?_),fun sz h=>(by cases h),p4,p5,p6,p7,p8⟩
  match j with
  | 0=>simp at hc;subst hc;exact hr 0 u a0 hu rfl
  | 1 =>
   simp at hc;subst hc;have:=(hr 1 u _ hu rfl).lit_eq.1;subst this;exact .slNil
  | j+2=>simp at hc
 ·have hb:=p8 b (by simp[keys]);have hb:w.heap.size<=b:=by
   rcases hb with h|h
   ·simp[keys] at h
   ·exact h
  have hF0:=p7.shut b (by simp[keys]);obtain⟨cs,E,k1,k2⟩:=p7.ok _ (List.mem_singleton.2 rfl);simp only at k1;have hlt:=zL k1;have kp:Keeps F' w' (fun x=>if x=b then some (l0.length*esz) else F' x) w':=by
   have cm:∀b' k,com F' b' k->com (fun x=>if x=b then some (l0.length*esz) else F' x) b' k:=fun b' k hm q hq=>by
    by_cases hbb:b'=b
    ·subst hbb;have:=hm 0 hF0;omega
    ·simp only[hbb,if_false] at hq;exact hm q hq
   exact⟨fun b' k u hu hm=>⟨hu,cm b' k hm⟩,fun b' es c hu hm=>⟨hu,cm b' 0 hm⟩⟩
  obtain⟨vs',rfl,hs,hr⟩:=p2.tup_eq;refine⟨.tuple vs',_,0,[],(fun x=>if x=b then some (l0.length*esz) else F' x),rfl,⟨rfl,rfl,rfl⟩,.tup vs' _ hs (fun j u c hu' hc=>?_),fun sz h=>(by cases h),p4,fun x hx=>?_,fun x hx=>?_,⟨List.nodup_nil,fun b hb=>by simp[keys] at hb,fun x hx=>by simp at hx⟩,fun b hb=>by simp[keys] at hb⟩
  ·match j with
   | 0=>simp at hc;subst hc;exact (hr 0 u a0 hu' rfl).mono kp
   | 1 =>
    simp at hc;subst hc;have:=(hr 1 u _ hu' rfl).lit_eq.1;subst this;refine Rep.sl_mk (sz:=esz) k1 rfl hcap hu (fun k hk q hq=>by simp at hq;omega) (fun i x j c hx hj=>?_);have hi:=(List.getElem?_eq_some_iff.1 hx).1;have hxm:=List.mem_of_getElem? hx;have hj':j<esz:=by rw[<-hu x hxm];exact (List.getElem?_eq_some_iff.1 hj).1
    have hle:i*esz+j<l0.length*esz:=by
     have:(i+1)*esz<=l0.length*esz:=Nat.mul_le_mul_right _ (by omega);rw[Nat.succ_mul] at this;omega
    have hfl:=yO hu;have hcs:cs.toList.length=(l0.flatMap AV.cells++rest).length:=k2.1;have hlt2:i*esz+j<cs.toList.length:=by rw[hcs,List.length_append,hfl];omega
    have hget:(l0.flatMap AV.cells++rest)[i*esz+j]? = some c:=by
     rw[List.getElem?_append_left (by rw[hfl];exact hle)];have hc2:=List.getElem?_eq_getElem (l:=l0.flatMap AV.cells) (i:=i*esz+j) (by rw[hfl];exact hle);obtain⟨y,y1,y2⟩:=zCM (by omega) hu hc2;have e1:(i*esz+j) / esz=i:=by rw[Nat.mul_comm,Nat.mul_add_div (by omega),Nat.div_eq_of_lt hj',Nat.add_zero]
     have e2:(i*esz+j) % esz=j:=by rw[Nat.mul_comm,Nat.mul_add_mod,Nat.mod_eq_of_lt hj']
     rw[e1,hx] at y1;injection y1 with y1
     subst y1;rw[e2,hj] at y2;rw[hc2,y2]
    have hu3:=List.getElem?_eq_getElem hlt2;obtain⟨q1,q2⟩:=k2.2 _ _ _ hu3 hget;exact⟨_,by rw[Nat.zero_add,<-Array.getElem?_toList];exact hu3,q1.mono kp,q2⟩
   | j+2=>simp at hc
  ·have:x≠b:=fun e=>by omega
   have h5:=p5 x hx;simp only[this,if_false];exact h5
  ·have:x≠b:=fun e=>by omega
   simp only[this,if_false];exact p6 x hx
end
end Fp
