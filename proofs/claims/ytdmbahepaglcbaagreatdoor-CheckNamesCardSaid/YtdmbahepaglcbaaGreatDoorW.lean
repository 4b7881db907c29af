/- Core without names: of which type it is. Plain. No condition. -/
import Derived.Test.YtdmbahepaglcbaaGreatDoorT
import Derived.Test.YtdmbahepaglcbaaGreatDoorC
import Derived.Test.YtdmbahepaglcbaaGreatDoorV
set_option linter.unusedSimpArgs false
set_option linter.unusedVariables false
namespace Go.Proofs.YtdmbahepaglcbaaGreatDoor
open Go Fp
set_option maxRecDepth 10000
set_option maxHeartbeats 8000000
set_option linter.unusedVariables false
set_option linter.unusedSimpArgs false
def mnD (own:List ByteArray):Nat->Db->Db
 | k,.bv i=>if i<k then .bv i else .fr (own.getD (i-k) .empty)
 | k,.app a b => .app (mnD own k a) (mnD own k b)
 | k,.all a => .all (mnD own (k+1) a)
 | _,d=>d
def inD (u:Db):Nat->Db->Db
 | k,.bv i=>if i=k then u else .bv i
 | k,.app a b => .app (inD u k a) (inD u k b)
 | k,.all a => .all (inD u (k+1) a)
 | _,d=>d
def abD (o:ByteArray):Nat->Db->Db
 | k,.fr s=>if s=o then .bv k else .fr s
 | k,.app a b => .app (abD o k a) (abD o k b)
 | k,.all a => .all (abD o (k+1) a)
 | _,d=>d
theorem qN (s:ByteArray) (e:List ByteArray):(s∈e/\db (.var s) e = .bv (ixN e s))∨(s∉e/\db (.var s) e = .fr s):=by
 by_cases h:s∈e
 ·exact .inl ⟨h,by simp only[db];rw[zS h];rfl⟩
 ·exact .inr ⟨h,by simp only[db];rw[yM h];rfl⟩
theorem zc7 {own d:List ByteArray} {ps:Env'} (t:Tp):∀e:List ByteArray,(∀y∈fv t,y∉e->(y∈d->yV y ps = .var (own.getD (ixN d y) .empty))/\(y∉d->yV y ps = .var y)) ->
  sb (fun y=>db (yV y ps) []) (db t e)=mnD own e.length (db t (e++d)):=by
 induction t with
 | var s =>
  intro e h;have h:=h s (by simp[fv]);rcases qN s e with⟨h1,h2⟩|⟨h1,h2⟩
  ·rw[h2];rcases qN s (e++d) with⟨h3,h4⟩|⟨h3,h4⟩
   ·rw[h4,zH9 h1];simp only[sb,mnD];rw[if_pos (zI1 h1)]
   ·exact absurd (List.mem_append_left _ h1) h3
  ·rw[h2];simp only[sb];rcases qN s (e++d) with⟨h3,h4⟩|⟨h3,h4⟩
   ·have hd:s∈d:=(List.mem_append.1 h3).resolve_left h1;rw[h4,zBL h1,(h h1).1 hd];simp only[mnD,db];rw[if_neg (Nat.not_lt.2 (Nat.le_add_right e.length (ixN d s))),Nat.add_sub_cancel_left]
    rfl
   ·have hd:s∉d:=fun q=>h3 (List.mem_append_right _ q);rw[h4,(h h1).2 hd]
    rfl
 | app a b iha ihb =>
  intro e h;simp only[db,sb,mnD];rw[iha e (fun y hy=>h y (mem_fv_app.2 (.inl hy))),ihb e (fun y hy=>h y (mem_fv_app.2 (.inr hy)))]
 | all s a ih =>
  intro e h;simp only[db,sb,mnD];rw[ih (s::e) (fun y hy hn=>by
   simp only[List.mem_cons,not_or] at hn;exact h y (mem_fv_all.2 ⟨hy,hn.1⟩) hn.2)]
  rfl
 | _=>intro e h;rfl
theorem z96 {own d:List ByteArray} {ps:Env'} {t:Tp} (h:∀y∈fv t,(y∈d->yV y ps = .var (own.getD (ixN d y) .empty))/\(y∉d->yV y ps = .var y)):db (sub t ps) []=mnD own 0 (db t d):=by
 rw[zRD];exact zc7 t [] fun y hy _=>h y hy
theorem zcH {U:Db} {s:ByteArray} (t:Tp):∀e:List ByteArray,sb (fun y=>if s=y then U else .fr y) (db t e)=inD U e.length (db t (e++[s])):=by
 induction t with
 | var y =>
  intro e;rcases qN y e with⟨h1,h2⟩|⟨h1,h2⟩
  ·rw[h2];rcases qN y (e++[s]) with⟨h3,h4⟩|⟨h3,h4⟩
   ·rw[h4,zH9 h1];simp only[sb,inD];rw[if_neg (by have:=zI1 h1;omega)]
   ·exact absurd (List.mem_append_left _ h1) h3
  ·rw[h2];simp only[sb];rcases qN y (e++[s]) with⟨h3,h4⟩|⟨h3,h4⟩
   ·have hd:y=s:=by simpa[h1] using h3
    subst hd;rw[h4,zBL h1];simp[inD,ixN]
   ·have hd:¬s=y:=fun q=>h3 (by simp[q]);rw[h4,if_neg hd]
    rfl
 | app a b iha ihb=>intro e;simp only[db,sb,inD];rw[iha e,ihb e]
 | all x a ih=>intro e;simp only[db,sb,inD];rw[ih (x::e)];rfl
 | _=>intro e;rfl
theorem z9X (a u:Tp) (s:ByteArray):db (sub a [(s,u)]) []=inD (db u []) 0 (db a [s]):=by
 have h:=zcH (U:=db u []) (s:=s) a [];rw[zRD,<-show sb (fun y=>if s=y then db u [] else .fr y) (db a [])=inD (db u []) 0 (db a [s]) from h]
 congr 1
 funext y
 simp only[yV,look];split<;>simp[db,memb]
theorem zc8 {o:ByteArray} (t:Tp):∀e:List ByteArray,db t (e++[o])=abD o e.length (db t e):=by
 induction t with
 | var y =>
  intro e;rcases qN y e with⟨h1,h2⟩|⟨h1,h2⟩
  ·rw[h2];rcases qN y (e++[o]) with⟨h3,h4⟩|⟨h3,h4⟩
   ·rw[h4,zH9 h1];rfl
   ·exact absurd (List.mem_append_left _ h1) h3
  ·rw[h2];simp only[abD];rcases qN y (e++[o]) with⟨h3,h4⟩|⟨h3,h4⟩
   ·have hd:y=o:=by simpa[h1] using h3
    subst hd;rw[h4,zBL h1,if_pos rfl];simp[ixN]
   ·have hd:¬y=o:=fun q=>h3 (by simp[q]);rw[h4,if_neg hd]
 | app a b iha ihb=>intro e;simp only[db,abD];rw[iha e,ihb e]
 | all x a ih=>intro e;simp only[db,abD];rw[<-List.cons_append,ih (x::e)];rfl
 | _=>intro e;rfl
theorem zdE (t:Tp) (o:ByteArray):db (.all o t) [] = .all (abD o 0 (db t [])):=congrArg Db.all (zc8 t [])
structure DW where
 fs:List Fd
 nm:ByteArray->Option Db
 bn:List Db
 own:List ByteArray
 deep:Nat
def DW.mores (W:DW) (l:List Db):DW:={W with bn:=l.reverse++W.bn}
def DW.all (W:DW):DW:={W with own:=jM W.deep::W.own,deep:=W.deep+1}
def DW.mean (W:DW) (t:Db):Db:=mnD W.own 0 t
structure DR where
 nd:DW->Option Db
 kd:List (DW->Option Db)
 bd:List (Db×(DW->Option Db))
 al:List ((Int×Int×ByteArray)×Nat×(DW->Option Db))
abbrev fnD (x t:Db):Db := .app (.app (.con arrow) x) t
def zCM:Db->Option (Db×Db)
 | .app (.app (.con s) x) t=>if s=arrow then some (x,t) else none
 | _=>none
def zTX:Db->Db
 | .app a _=>zTX a
 | t=>t
def zH7:Db->List Db
 | .app a b=>b::zH7 a
 | _=>[]
def atD (vs:List ByteArray) (l:List Db) (y:ByteArray):Db:=match vs,l with
 | v::vs,t::l=>if v=y then t else atD vs l y
 | _,_ => .fr y
open Classical in
noncomputable def jZ (W:DW) (u:Db) (h:Int×Int×ByteArray) (k:Nat):Option DW :=
 if h.1=3 then some W else if h.1=2 then (if u = .con xU then some W else none)
 else if h.1=1 then (match wW W.fs h.2.2 with
  | none=>none
  | some f=>match qF f with
   | none=>none
   | some (l,n,vs)=>if zTX u = .con n/\(zH7 u).length=vs.length/\k=l.length then some (W.mores (l.map fun x=>sb (atD vs (zH7 u).reverse) (db x []))) else none)
 else none
open Classical in
noncomputable def zA2 (f:Int) (s:ByteArray) (t:Db) (g:DR) (W:DW):Option Db :=
 if f=2 then (wW W.fs s).map fun f=>db f.t []
 else if f=3 then some (.con xU)
 else if f=4 then (match g.kd with
  | [a,b]=>match a W with
   | none=>none
   | some x=>match b W with
    | none=>none
    | some y=>match zCM x with
     | none=>none
     | some (p,q)=>if p=y then some q else none
  | _=>none)
 else if f=5 then (match g.kd with
  | [a]=>(a (W.mores [W.mean t])).map (fnD (W.mean t))
  | _=>none)
 else if f=6 then (match g.kd with
  | [a]=>match a W with
   | some (.all x)=>some (inD (W.mean t) 0 x)
   | _=>none
  | _=>none)
 else if f=7 then (match g.kd with
  | [a]=>(a W.all).map fun x => .all (abD (jM W.deep) 0 x)
  | _=>none)
 else if f=8 then (match g.kd with
  | [a]=>if ∀b∈g.bd,b.2 (W.mores (g.bd.map fun b=>W.mean b.1))=some (W.mean b.1) then a (W.mores (g.bd.map fun b=>W.mean b.1)) else none
  | _=>none)
 else if f=9 then (match g.kd with
  | [a]=>match a W with
   | none=>none
   | some u=>if ∀x∈g.al,∃W',jZ W u x.1 x.2.1=some W'/\x.2.2 W'=some (W.mean t) then some (W.mean t) else none
  | _=>none)
 else if f=10 then (match g.kd with
  | [a,b]=>if a W=some (.con xU)/\b W=some (.con xU) then (zCG s).map fun u=>db u [] else none
  | _=>none)
 else if f=11 then some (W.mean t)
 else none
noncomputable def zDF:DC->DR
 | .nil=>⟨fun _=>none,[],[],[]⟩
 | .bv i=>⟨fun W=>W.bn[i]?,[],[],[]⟩
 | .fr s=>⟨fun W=>W.nm s,[],[],[]⟩
 | .node f _ s t g=>⟨zA2 f s t (zDF g),[],[],[]⟩
 | .kid p r=>{zDF r with kd:=(zDF p).nd::(zDF r).kd}
 | .bind t p r=>{zDF r with bd:=(t,(zDF p).nd)::(zDF r).bd}
 | .alt f n s k p r=>{zDF r with al:=((f,n,s),k,(zDF p).nd)::(zDF r).al}
noncomputable def tyD (c:DC) (W:DW):Option Db:=(zDF c).nd W
theorem qX {g:Cr} (h:g.isN=false) (ho:g.Ok) (e d:List ByteArray):(zDF (dbc g e d)).kd=g.kids.map fun p=>tyD (dbc p e d):=by
 induction g with
 | nil=>rfl
 | node f n s t g ih=>cases h
 | kid p r _ ih=>show _::_=_::_;rw[ih ho.2.1 ho.2.2.2];rfl
 | bind x t p r _ ih=>exact ih ho.2.1 ho.2.2.2.2
 | alt f n s vs p r _ ih=>exact ih ho.2.1 ho.2.2.2.2.2.2
theorem zX6 {g:Cr} (h:g.isN=false) (ho:g.Ok) (e d:List ByteArray):(zDF (dbc g e d)).bd=g.binds.map fun b=>(db b.2.1 d,tyD (dbc b.2.2 e d)):=by
 induction g with
 | nil=>rfl
 | node f n s t g ih=>cases h
 | kid p r _ ih=>exact ih ho.2.1 ho.2.2.2
 | bind x t p r _ ih=>show _::_=_::_;rw[ih ho.2.1 ho.2.2.2.2];rfl
 | alt f n s vs p r _ ih=>exact ih ho.2.1 ho.2.2.2.2.2.2
theorem zXC {g:Cr} (h:g.isN=false) (ho:g.Ok) (e d:List ByteArray):(zDF (dbc g e d)).al=g.alts.map fun a=>(a.1,a.2.1.length,tyD (dbc a.2.2 (a.2.1.reverse++e) d)):=by
 induction g with
 | nil=>rfl
 | node f n s t g ih=>cases h
 | kid p r _ ih=>exact ih ho.2.1 ho.2.2.2
 | bind x t p r _ ih=>exact ih ho.2.1 ho.2.2.2.2
 | alt f n s vs p r _ ih=>show _::_=_::_;rw[ih ho.2.1 ho.2.2.2.2.2.2];rfl
end Go.Proofs.YtdmbahepaglcbaaGreatDoor
