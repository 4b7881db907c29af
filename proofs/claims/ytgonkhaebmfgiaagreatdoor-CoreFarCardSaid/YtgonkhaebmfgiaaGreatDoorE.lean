/- Core as a tree of one sort, and how it lies in memory; what is free in it, how many nodes there are. Plain. No condition. -/
import Derived.Test.YtgonkhaebmfgiaaGreatDoorC
import Derived.Test.YtgonkhaebmfgiaaGreatDoorFpM
set_option linter.unusedSimpArgs false
set_option linter.unusedVariables false
namespace Go.Proofs.YtgonkhaebmfgiaaGreatDoor
open Go Fp
set_option maxRecDepth 10000
set_option maxHeartbeats 1000000
set_option linter.unusedVariables false
set_option linter.unusedSimpArgs false
abbrev fvT (t:Tp):List ByteArray:=fv t
inductive Cr where
 | nil
 | node (f n:Int) (s:ByteArray) (t:Tp) (g:Cr)
 | kid (p r:Cr)
 | bind (x:ByteArray) (t:Tp) (p r:Cr)
 | alt (f n:Int) (s:ByteArray) (vs:List ByteArray) (p r:Cr)
 deriving DecidableEq
namespace Cr
def f:Cr->Int|node f _ _ _ _=>f|_=>0
def n:Cr->Int|node _ n _ _ _=>n|_=>0
def s:Cr->ByteArray|node _ _ s _ _=>s|_ => .empty
def t:Cr->Tp|node _ _ _ t _=>t|_ => .no
def isN:Cr->Bool|node _ _ _ _ _=>true|_=>false
def e3:Cr->Nat->List AV
 | nil,_=>[]
 | node _ _ _ _ g,i=>e3 g i
 | kid p r,i=>match i with
  | 0 => .agg [.lit (.int .i64 p.f),.lit (.int .i64 p.n),.lit (.string p.s),.lit (.int .i64 p.t.form),.lit (.int .i64 p.t.num),.lit (.string p.t.nam),.sl p.t.eArgs,.sl (e3 p 0),.sl (e3 p 1),.sl (e3 p 2)]::e3 r 0
  | i+1=>e3 r (i+1)
 | bind x t p r,i=>match i with
  | 1 => .agg [.lit (.string x),.lit (.int .i64 t.form),.lit (.int .i64 t.num),.lit (.string t.nam),.sl t.eArgs,.lit (.int .i64 p.f),.lit (.int .i64 p.n),.lit (.string p.s),.lit (.int .i64 p.t.form),.lit (.int .i64 p.t.num),.lit (.string p.t.nam),.sl p.t.eArgs,.sl (e3 p 0),.sl (e3 p 1),.sl (e3 p 2)]::e3 r 1
  | 0=>e3 r 0
  | i+2=>e3 r (i+2)
 | alt f n s vs p r,i=>match i with
  | 2 => .agg [.lit (.int .i64 f),.lit (.int .i64 n),.lit (.string s),.sl (eSs vs),.lit (.int .i64 p.f),.lit (.int .i64 p.n),.lit (.string p.s),.lit (.int .i64 p.t.form),.lit (.int .i64 p.t.num),.lit (.string p.t.nam),.sl p.t.eArgs,.sl (e3 p 0),.sl (e3 p 1),.sl (e3 p 2)]::e3 r 2
  | 0=>e3 r 0
  | 1=>e3 r 1
  | i+3=>e3 r (i+3)
def kids:Cr->List Cr
 | nil=>[]
 | node _ _ _ _ g=>kids g
 | kid p r=>p::kids r
 | bind _ _ _ r=>kids r
 | alt _ _ _ _ _ r=>kids r
def binds:Cr->List (ByteArray×Tp×Cr)
 | nil=>[]
 | node _ _ _ _ g=>binds g
 | kid _ r=>binds r
 | bind x t p r=>(x,t,p)::binds r
 | alt _ _ _ _ _ r=>binds r
def alts:Cr->List ((Int×Int×ByteArray)×List ByteArray×Cr)
 | nil=>[]
 | node _ _ _ _ g=>alts g
 | kid _ r=>alts r
 | bind _ _ _ r=>alts r
 | alt f n s vs p r=>((f,n,s),vs,p)::alts r
def sz:Cr->Nat
 | nil=>0
 | node _ _ _ _ g=>1+sz g
 | kid p r=>sz p+sz r
 | bind _ _ p r=>sz p+sz r
 | alt _ _ _ _ p r=>sz p+sz r
end Cr
def eC (c:Cr):AV := .agg [.lit (.int .i64 c.f),.lit (.int .i64 c.n),.lit (.string c.s),.lit (.int .i64 c.t.form),.lit (.int .i64 c.t.num),.lit (.string c.t.nam),.sl c.t.eArgs,.sl (c.e3 0),.sl (c.e3 1),.sl (c.e3 2)]
def eBd (b:ByteArray×Tp×Cr):AV := .agg [.lit (.string b.1),.lit (.int .i64 b.2.1.form),.lit (.int .i64 b.2.1.num),.lit (.string b.2.1.nam),.sl b.2.1.eArgs,.lit (.int .i64 b.2.2.f),.lit (.int .i64 b.2.2.n),.lit (.string b.2.2.s),.lit (.int .i64 b.2.2.t.form),.lit (.int .i64 b.2.2.t.num),.lit (.string b.2.2.t.nam),.sl b.2.2.t.eArgs,.sl (b.2.2.e3 0),.sl (b.2.2.e3 1),.sl (b.2.2.e3 2)]
def eAl (a:(Int×Int×ByteArray)×List ByteArray×Cr):AV := .agg [.lit (.int .i64 a.1.1),.lit (.int .i64 a.1.2.1),.lit (.string a.1.2.2),.sl (eSs a.2.1),.lit (.int .i64 a.2.2.f),.lit (.int .i64 a.2.2.n),.lit (.string a.2.2.s),.lit (.int .i64 a.2.2.t.form),.lit (.int .i64 a.2.2.t.num),.lit (.string a.2.2.t.nam),.sl a.2.2.t.eArgs,.sl (a.2.2.e3 0),.sl (a.2.2.e3 1),.sl (a.2.2.e3 2)]
def eCs (l:List Cr):List AV:=l.map eC
def yS (l:List (ByteArray×Tp×Cr)):List AV:=l.map eBd
def xE (l:List ((Int×Int×ByteArray)×List ByteArray×Cr)):List AV:=l.map eAl
theorem zXB (c:Cr):c.e3 0=eCs c.kids:=by
 induction c with
 | nil=>rfl
 | node f n s t g ih=>exact ih
 | kid p r _ ih=>show eC p::_=_;rw[ih];rfl
 | bind x t p r _ ih=>exact ih
 | alt f n s vs p r _ ih=>exact ih
theorem zMN (c:Cr):c.e3 1=yS c.binds:=by
 induction c with
 | nil=>rfl
 | node f n s t g ih=>exact ih
 | kid p r _ ih=>exact ih
 | bind x t p r _ ih=>show eBd (x,t,p)::_=_;rw[ih];rfl
 | alt f n s vs p r _ ih=>exact ih
theorem zJD (c:Cr):c.e3 2=xE c.alts:=by
 induction c with
 | nil=>rfl
 | node f n s t g ih=>exact ih
 | kid p r _ ih=>exact ih
 | bind x t p r _ ih=>exact ih
 | alt f n s vs p r _ ih=>show eAl ((f,n,s),vs,p)::_=_;rw[ih];rfl
namespace Cr
def parts0 (c:Cr):List Cr:=c.kids++c.binds.map (·.2.2)
def own:Cr->List ByteArray
 | node f _ s _ _=>if f=5 then [s] else []
 | _=>[]
def names0 (c:Cr):List ByteArray:=c.own++c.binds.map (·.1)
def fv:Cr->List ByteArray
 | nil=>[]
 | node f n s t g=>if f=1 then [s] else zC (fun y=>memb y (names0 (node f n s t g))) [] (fv g)
 | kid p r=>zC no (fv p) (fv r)
 | bind _ _ p r=>zC no (fv p) (fv r)
 | alt _ _ _ vs p r=>zC no (zC (fun y=>memb y vs) [] (fv p)) (fv r)
def tv:Cr->List ByteArray
 | nil=>[]
 | node f _ s t g=>zC (fun y=>decide (f=7) && decide (y=s)) (fvT t) (tv g)
 | kid p r=>zC no (tv p) (tv r)
 | bind _ t p r=>zC no (zC no (fvT t) (tv p)) (tv r)
 | alt _ _ _ _ p r=>zC no (tv p) (tv r)
def nk (f:Int):Nat:=if f=4∨f=10 then 2 else if f=5∨f=6∨f=7∨f=8∨f=9 then 1 else 0
def Ok:Cr->Prop
 | nil=>True
 | node f n s t g=>g.isN=false/\(f=1->t = .no/\g=nil)/\(f=7->t = .no)/\g.kids.length=nk f/\(g.binds≠[]->f=8)/\(g.alts≠[]->f=9)/\(g.binds.map (·.1)).Nodup/\Ok g
 | kid p r=>p.isN=true/\r.isN=false/\Ok p/\Ok r
 | bind x t p r=>p.isN=true/\r.isN=false/\r.kids=[]/\Ok p/\Ok r
 | alt f n s vs p r=>p.isN=true/\r.isN=false/\r.kids=[]/\r.binds=[]/\vs.Nodup/\Ok p/\Ok r
end Cr
theorem zH9 {c p:Cr} (h:p∈c.kids):p.sz+(if c.isN then 1 else 0)<=c.sz:=by
 induction c with
 | nil=>simp[Cr.kids] at h
 | node f n s t g ih=>have:=ih h;simp only[Cr.sz,Cr.isN] at *;split at this<;>simp<;>omega
 | kid q r _ ih =>
  simp only[Cr.kids,List.mem_cons] at h;simp only[Cr.sz,Cr.isN];rcases h with rfl|h
  ·simp
  ·have:=ih h;simp;omega
 | bind x t q r _ ih=>have:=ih h;simp only[Cr.sz,Cr.isN];simp;omega
 | alt f n s vs q r _ ih=>have:=ih h;simp only[Cr.sz,Cr.isN];simp;omega
theorem zET {c:Cr} {b:ByteArray×Tp×Cr} (h:b∈c.binds):b.2.2.sz+(if c.isN then 1 else 0)<=c.sz:=by
 induction c with
 | nil=>simp[Cr.binds] at h
 | node f n s t g ih=>have:=ih h;simp only[Cr.sz,Cr.isN] at *;split at this<;>simp<;>omega
 | kid q r _ ih=>have:=ih h;simp only[Cr.sz,Cr.isN];simp;omega
 | bind x t q r _ ih =>
  simp only[Cr.binds,List.mem_cons] at h;simp only[Cr.sz,Cr.isN];rcases h with rfl|h
  ·simp
  ·have:=ih h;simp;omega
 | alt f n s vs q r _ ih=>have:=ih h;simp only[Cr.sz,Cr.isN];simp;omega
theorem zIP {c:Cr} {b:(Int×Int×ByteArray)×List ByteArray×Cr} (h:b∈c.alts):b.2.2.sz+(if c.isN then 1 else 0)<=c.sz:=by
 induction c with
 | nil=>simp[Cr.alts] at h
 | node f n s t g ih=>have:=ih h;simp only[Cr.sz,Cr.isN] at *;split at this<;>simp<;>omega
 | kid q r _ ih=>have:=ih h;simp only[Cr.sz,Cr.isN];simp;omega
 | bind x t q r _ ih=>have:=ih h;simp only[Cr.sz,Cr.isN];simp;omega
 | alt f n s vs q r _ ih =>
  simp only[Cr.alts,List.mem_cons] at h;simp only[Cr.sz,Cr.isN];rcases h with rfl|h
  ·simp
  ·have:=ih h;simp;omega
theorem zE4 (c:Cr):c.fv.Nodup:=by
 induction c with
 | nil=>exact List.nodup_nil
 | node f n s t g ih=>simp only[Cr.fv];split;exact List.nodup_cons.2 ⟨by simp,List.nodup_nil⟩;exact yF List.nodup_nil
 | kid p r ihp ihr=>exact yF ihp
 | bind x t p r ihp ihr=>exact yF ihp
 | alt f n s vs p r ihp ihr=>exact yF (yF List.nodup_nil)
theorem zCD (c:Cr):c.tv.Nodup:=by
 induction c with
 | nil=>exact List.nodup_nil
 | node f n s t g ih=>exact yF (wY t)
 | kid p r ihp ihr=>exact yF ihp
 | bind x t p r ihp ihr=>exact yF (yF (wY t))
 | alt f n s vs p r ihp ihr=>exact yF ihp
theorem zF2 {α:Type} [DecidableEq α] {out l:List α} {x:α}:x∈zC no out l↔x∈out∨x∈l:=by rw[mem_insAll];simp[no]
theorem zV5 {α:Type} [DecidableEq α] {vs out l:List α} {x:α}:x∈zC (fun y=>memb y vs) out l↔x∈out∨(x∈l/\x∉vs):=by
 rw[mem_insAll];simp[memb]
theorem zDS (n:Int) (s:ByteArray) (t:Tp) (g:Cr):(Cr.node 1 n s t g).fv=[s]:=by simp[Cr.fv]
theorem wF {f n:Int} {s:ByteArray} {t:Tp} {g:Cr} {x:ByteArray} (h:f≠1):x∈(Cr.node f n s t g).fv↔x∈g.fv/\x∉(Cr.node f n s t g).names0:=by
 simp only[Cr.fv,if_neg h];rw[zV5];simp
theorem mem_fv_kid {p r:Cr} {x:ByteArray}:x∈(Cr.kid p r).fv↔x∈p.fv∨x∈r.fv:=zF2
theorem mem_fv_bind {b:ByteArray} {t:Tp} {p r:Cr} {x:ByteArray}:x∈(Cr.bind b t p r).fv↔x∈p.fv∨x∈r.fv:=zF2
theorem mem_fv_alt {f n:Int} {s:ByteArray} {vs:List ByteArray} {p r:Cr} {x:ByteArray}:x∈(Cr.alt f n s vs p r).fv↔(x∈p.fv/\x∉vs)∨x∈r.fv:=by
 simp only[Cr.fv];rw[zF2,zV5];simp
theorem mem_tv_node {f n:Int} {s:ByteArray} {t:Tp} {g:Cr} {x:ByteArray}:x∈(Cr.node f n s t g).tv↔x∈fvT t∨(x∈g.tv/\¬(f=7/\x=s)):=by
 simp only[Cr.tv];rw[mem_insAll];simp only[Bool.and_eq_false_iff,decide_eq_false_iff_not,Decidable.not_and_iff_or_not]
theorem mem_tv_kid {p r:Cr} {x:ByteArray}:x∈(Cr.kid p r).tv↔x∈p.tv∨x∈r.tv:=zF2
theorem mem_tv_bind {b:ByteArray} {t:Tp} {p r:Cr} {x:ByteArray}:x∈(Cr.bind b t p r).tv↔x∈fvT t∨x∈p.tv∨x∈r.tv:=by
 simp only[Cr.tv];rw[zF2,zF2,or_assoc]
theorem mem_tv_alt {f n:Int} {s:ByteArray} {vs:List ByteArray} {p r:Cr} {x:ByteArray}:x∈(Cr.alt f n s vs p r).tv↔x∈p.tv∨x∈r.tv:=zF2
inductive DC where
 | nil
 | bv (i:Nat)
 | fr (s:ByteArray)
 | node (f n:Int) (s:ByteArray) (t:Db) (g:DC)
 | kid (p r:DC)
 | bind (t:Db) (p r:DC)
 | alt (f n:Int) (s:ByteArray) (k:Nat) (p r:DC)
def dbc:Cr->List ByteArray->List ByteArray->DC
 | .nil,_,_ => .nil
 | .node f n s t g,e,d=>if f=1 then (if memb s e then .bv (ixN e s) else .fr s)
   else .node f n (if f=5∨f=7 then .empty else s) (db t (if f=7 then s::d else d)) (dbc g ((Cr.node f n s t g).names0.reverse++e) (if f=7 then s::d else d))
 | .kid p r,e,d => .kid (dbc p e d) (dbc r e d)
 | .bind _ t p r,e,d => .bind (db t d) (dbc p e d) (dbc r e d)
 | .alt f n s vs p r,e,d => .alt f n s vs.length (dbc p (vs.reverse++e) d) (dbc r e d)
def sbD (σ:ByteArray->DC) (τ:ByteArray->Db):DC->DC
 | .nil => .nil
 | .bv i => .bv i
 | .fr s=>σ s
 | .node f n s t g => .node f n s (sb τ t) (sbD σ τ g)
 | .kid p r => .kid (sbD σ τ p) (sbD σ τ r)
 | .bind t p r => .bind (sb τ t) (sbD σ τ p) (sbD σ τ r)
 | .alt f n s k p r => .alt f n s k (sbD σ τ p) (sbD σ τ r)
theorem zUU (σ ρ:ByteArray->DC) (τ υ:ByteArray->Db) (d:DC):sbD ρ υ (sbD σ τ d)=sbD (fun y=>sbD ρ υ (σ y)) (fun y=>sb υ (τ y)) d:=by
 induction d with
 | node f n s t g ih=>simp only[sbD,z5W,ih]
 | kid p r ihp ihr=>simp only[sbD,ihp,ihr]
 | bind t p r ihp ihr=>simp only[sbD,z5W,ihp,ihr]
 | alt f n s k p r ihp ihr=>simp only[sbD,ihp,ihr]
 | _=>rfl
theorem zSR (d:DC):sbD .fr .fr d=d:=by
 induction d with
 | node f n s t g ih=>simp only[sbD,zCX,ih]
 | kid p r ihp ihr=>simp only[sbD,ihp,ihr]
 | bind t p r ihp ihr=>simp only[sbD,zCX,ihp,ihr]
 | alt f n s k p r ihp ihr=>simp only[sbD,ihp,ihr]
 | _=>rfl
def zAM:Db->ByteArray->Prop
 | .fr s,x=>x=s
 | .app a b,x=>zAM a x∨zAM b x
 | .all a,x=>zAM a x
 | _,_=>False
def qF:DC->ByteArray->Prop
 | .node _ _ _ t g,x=>zAM t x∨qF g x
 | .kid p r,x=>qF p x∨qF r x
 | .bind t p r,x=>zAM t x∨qF p x∨qF r x
 | .alt _ _ _ _ p r,x=>qF p x∨qF r x
 | _,_=>False
def yK:DC->ByteArray->Nat
 | .fr s,x=>if x=s then 1 else 0
 | .node _ _ _ _ g,x=>yK g x
 | .kid p r,x=>yK p x+yK r x
 | .bind _ p r,x=>yK p x+yK r x
 | .alt _ _ _ _ p r,x=>yK p x+yK r x
 | _,_=>0
def szD:DC->Nat
 | .nil=>0
 | .bv _=>1
 | .fr _=>1
 | .node _ _ _ _ g=>1+szD g
 | .kid p r=>szD p+szD r
 | .bind _ p r=>szD p+szD r
 | .alt _ _ _ _ p r=>szD p+szD r
theorem zPB (t:Tp):∀(e:List ByteArray) (x:ByteArray),zAM (db t e) x↔x∈fv t/\x∉e:=by
 induction t with
 | var s =>
  intro e x;simp only[db,fv,List.mem_singleton];by_cases h:s∈e
  ·rw[if_pos (yE h)];simp only[zAM,false_iff,not_and];rintro rfl;simpa using h
  ·rw[if_neg (by rw[xH h];simp)];simp only[zAM];constructor
   ·rintro rfl;exact⟨rfl,h⟩
   ·exact fun h=>h.1
 | app a b iha ihb=>intro e x;simp only[db,zAM,iha,ihb,mem_fv_app];constructor<;>(intro h;rcases h with h|h<;>simp_all) ;
 | all s a ih=>intro e x;simp only[db,zAM,ih,mem_fv_all,List.mem_cons,not_or];constructor<;>(intro h;simp_all)
 | no=>intro e x;simp[db,zAM,fv]
 | mt n=>intro e x;simp[db,zAM,fv]
 | con s=>intro e x;simp[db,zAM,fv]
instance memDec (s:ByteArray) (l:List ByteArray):Decidable (s∈l):=decidable_of_iff (memb s l=true) memb_iff
def zZ (φ:Cr->Cr) (τ:Tp->Tp) (ν:ByteArray->ByteArray) (α:List ByteArray->Cr->List ByteArray×Cr):Cr->Cr
 | .kid p r => .kid (φ p) (zZ φ τ ν α r)
 | .bind x t p r => .bind (ν x) (τ t) (φ p) (zZ φ τ ν α r)
 | .alt f n s vs p r => .alt f n s (α vs p).1 (α vs p).2 (zZ φ τ ν α r)
 | c=>c
noncomputable def stF:Nat->Cr->ByteArray->Tp->Cr
 | k+1,.node f n s ty g,v,t =>
  if f=7 then
   if s=v∨v∉g.tv then .node f n s ty g
   else if s∈fvT t then .node f n (lett (ff (fvT t++g.tv))) ty (zZ (fun p=>stF k (stF k p s (.var (lett (ff (fvT t++g.tv))))) v t) id id Prod.mk g)
   else .node f n s ty (zZ (fun p=>stF k p v t) id id Prod.mk g)
  else .node f n s (sub ty [(v,t)]) (zZ (fun p=>stF k p v t) (fun u=>sub u [(v,t)]) id (fun vs p=>(vs,stF k p v t)) g)
 | _,c,_,_=>c
noncomputable def rens (far:List ByteArray):List ByteArray->List ByteArray->List (ByteArray×ByteArray)
 | [],_=>[]
 | n::ns,tk=>if n∈far then (n,lett (ff tk))::rens far ns (tk++[lett (ff tk)]) else rens far ns tk
def nw:List (ByteArray×ByteArray)->ByteArray->ByteArray
 | [],n=>n
 | (a,z)::r,n=>if a=n then z else nw r n
noncomputable def plan (fr ns:List ByteArray) (x:ByteArray) (far:List ByteArray):Option (List (ByteArray×ByteArray)) :=
 if x∈fr/\x∉ns then some (rens far ns (fr++ns++far)) else none
abbrev vr (s:ByteArray):Cr := .node 1 0 s .no .nil
noncomputable def wE (φ:List (ByteArray×ByteArray)->Cr->Cr) (x:ByteArray) (far vs:List ByteArray) (p:Cr):List ByteArray×Cr:=match plan p.fv vs x far with
 | none=>(vs,p)
 | some rs=>(vs.map (nw rs),φ rs p)
noncomputable def sbF:Nat->Cr->ByteArray->Cr->Cr
 | k+1,.node f n s t g,x,b =>
  if f=1 then (if s=x then b else .node f n s t g)
  else if f=7 then
   if x∈(Cr.node f n s t g).fv then
    if s∈b.tv then .node f n (lett (ff (b.tv++g.tv))) t (zZ (fun p=>sbF k (stF k p s (.var (lett (ff (b.tv++g.tv))))) x b) id id Prod.mk g)
    else .node f n s t (zZ (fun p=>sbF k p x b) id id Prod.mk g)
   else .node f n s t g
  else match plan (g.parts0.flatMap Cr.fv) (Cr.node f n s t g).names0 x b.fv with
   | none => .node f n s t (zZ id id id (wE (fun rs p=>sbF k (rs.foldl (fun p q=>sbF k p q.1 (vr q.2)) p) x b) x b.fv) g)
   | some rs => .node f n (if f=5 then nw rs s else s) t (zZ (fun p=>sbF k (rs.foldl (fun p q=>sbF k p q.1 (vr q.2)) p) x b) id (nw rs) (wE (fun rs p=>sbF k (rs.foldl (fun p q=>sbF k p q.1 (vr q.2)) p) x b) x b.fv) g)
 | _,c,_,_=>c
section
variable {φ:Cr->Cr} {τ:Tp->Tp} {ν:ByteArray->ByteArray} {α:List ByteArray->Cr->List ByteArray×Cr}
theorem zGK (g:Cr):(zZ φ τ ν α g).isN=g.isN:=by cases g<;>rfl
theorem zCR {g:Cr} (h:g.isN=false) (ho:g.Ok):(zZ φ τ ν α g).kids=g.kids.map φ:=by
 induction g with
 | nil=>rfl
 | node=>cases h
 | kid p r _ ih=>simp only[zZ,Cr.kids,List.map_cons,ih ho.2.1 ho.2.2.2]
 | bind x t p r _ ih=>simp only[zZ,Cr.kids,ih ho.2.1 ho.2.2.2.2]
 | alt f n s vs p r _ ih=>simp only[zZ,Cr.kids,ih ho.2.1 ho.2.2.2.2.2.2]
theorem wJ {g:Cr} (h:g.isN=false) (ho:g.Ok):(zZ φ τ ν α g).binds=g.binds.map fun b=>(ν b.1,τ b.2.1,φ b.2.2):=by
 induction g with
 | nil=>rfl
 | node=>cases h
 | kid p r _ ih=>simp only[zZ,Cr.binds,ih ho.2.1 ho.2.2.2]
 | bind x t p r _ ih=>simp only[zZ,Cr.binds,List.map_cons,ih ho.2.1 ho.2.2.2.2]
 | alt f n s vs p r _ ih=>simp only[zZ,Cr.binds,ih ho.2.1 ho.2.2.2.2.2.2]
theorem zHM {g:Cr} (h:g.isN=false) (ho:g.Ok):(zZ φ τ ν α g).alts=g.alts.map fun a=>(a.1,α a.2.1 a.2.2):=by
 induction g with
 | nil=>rfl
 | node=>cases h
 | kid p r _ ih=>simp only[zZ,Cr.alts,ih ho.2.1 ho.2.2.2]
 | bind x t p r _ ih=>simp only[zZ,Cr.alts,ih ho.2.1 ho.2.2.2.2]
 | alt f n s vs p r _ ih=>simp only[zZ,Cr.alts,List.map_cons,ih ho.2.1 ho.2.2.2.2.2.2]
end
theorem Cr.Ok.kid {c p:Cr} (h:c.Ok) (hp:p∈c.kids):p.isN=true/\p.Ok:=by
 induction c with
 | nil=>cases hp
 | node f n s t g ih=>exact ih h.2.2.2.2.2.2.2 hp
 | kid q r _ ih =>
  simp only[Cr.kids,List.mem_cons] at hp;rcases hp with rfl|hp
  ·exact⟨h.1,h.2.2.1⟩
  ·exact ih h.2.2.2 hp
 | bind x t q r _ ih=>exact ih h.2.2.2.2 hp
 | alt f n s vs q r _ ih=>exact ih h.2.2.2.2.2.2 hp
theorem Cr.Ok.bind {c:Cr} {b:ByteArray×Tp×Cr} (h:c.Ok) (hp:b∈c.binds):b.2.2.isN=true/\b.2.2.Ok:=by
 induction c with
 | nil=>cases hp
 | node f n s t g ih=>exact ih h.2.2.2.2.2.2.2 hp
 | kid q r _ ih=>exact ih h.2.2.2 hp
 | bind x t q r _ ih =>
  simp only[Cr.binds,List.mem_cons] at hp;rcases hp with rfl|hp
  ·exact⟨h.1,h.2.2.2.1⟩
  ·exact ih h.2.2.2.2 hp
 | alt f n s vs q r _ ih=>exact ih h.2.2.2.2.2.2 hp
theorem Cr.Ok.alt {c:Cr} {a:(Int×Int×ByteArray)×List ByteArray×Cr} (h:c.Ok) (hp:a∈c.alts):a.2.2.isN=true/\a.2.2.Ok/\a.2.1.Nodup:=by
 induction c with
 | nil=>cases hp
 | node f n s t g ih=>exact ih h.2.2.2.2.2.2.2 hp
 | kid q r _ ih=>exact ih h.2.2.2 hp
 | bind x t q r _ ih=>exact ih h.2.2.2.2 hp
 | alt f n s vs q r _ ih =>
  simp only[Cr.alts,List.mem_cons] at hp;rcases hp with rfl|hp
  ·exact⟨h.1,h.2.2.2.2.2.1,h.2.2.2.2.1⟩
  ·exact ih h.2.2.2.2.2.2 hp
theorem zJY {φ:Cr->Cr} {τ:Tp->Tp} {ν:ByteArray->ByteArray} {α:List ByteArray->Cr->List ByteArray×Cr} {σ:ByteArray->DC} {υ:ByteArray->Db} {e e' d d':List ByteArray} {g:Cr} (h:g.isN=false) (ho:g.Ok)
  (hk:∀p∈g.kids,dbc (φ p) e' d'=sbD σ υ (dbc p e d)) (hb:∀b∈g.binds,dbc (φ b.2.2) e' d'=sbD σ υ (dbc b.2.2 e d)/\db (τ b.2.1) d'=sb υ (db b.2.1 d))
  (ha:∀a∈g.alts,(α a.2.1 a.2.2).1.length=a.2.1.length/\dbc (α a.2.1 a.2.2).2 ((α a.2.1 a.2.2).1.reverse++e') d'=sbD σ υ (dbc a.2.2 (a.2.1.reverse++e) d)) :
  dbc (zZ φ τ ν α g) e' d'=sbD σ υ (dbc g e d):=by
 induction g with
 | nil=>rfl
 | node=>cases h
 | kid p r _ ih =>
  simp only[zZ,dbc,sbD,Cr.kids,List.mem_cons,forall_eq_or_imp] at hk⊢;rw[hk.1,ih ho.2.1 ho.2.2.2 hk.2 hb ha]
 | bind x t p r _ ih =>
  simp only[zZ,dbc,sbD,Cr.binds,List.mem_cons,forall_eq_or_imp] at hb⊢;rw[hb.1.1,hb.1.2,ih ho.2.1 ho.2.2.2.2 hk hb.2 ha]
 | alt f n s vs p r _ ih =>
  simp only[zZ,dbc,sbD,Cr.alts,List.mem_cons,forall_eq_or_imp] at ha⊢;rw[ha.1.1,ha.1.2,ih ho.2.1 ho.2.2.2.2.2.2 hk hb ha.2]
theorem zY {f n:Int} {s:ByteArray} {t:Tp} {g:Cr} (h:(Cr.node f n s t g).Ok):g.isN=false/\g.Ok:=⟨h.1,h.2.2.2.2.2.2.2⟩
theorem z2H {g:Cr} (h:g.isN=false) (h1:g.kids=[]) (h2:g.binds=[]) (h3:g.alts=[]):g = .nil:=by
 cases g<;>simp_all [Cr.kids,Cr.binds,Cr.alts,Cr.isN]
theorem z3S {g:Cr} (h:g.isN=false) (ho:g.Ok) (h1:g.kids.length=1) (h2:g.binds=[]) (h3:g.alts=[]):∃p,g = .kid p .nil/\p.isN=true/\p.Ok:=by
 cases g with
 | kid p r =>
  simp[Cr.kids,Cr.binds,Cr.alts] at h1 h2 h3;rw[z2H ho.2.1 h1 h2 h3];exact⟨p,rfl,ho.1,ho.2.2.1⟩
 | nil=>simp[Cr.kids] at h1
 | node=>cases h
 | bind=>simp[Cr.binds] at h2
 | alt=>simp[Cr.alts] at h3
theorem zP8 {n:Int} {s:ByteArray} {t:Tp} {g:Cr} (h:(Cr.node 7 n s t g).Ok):t = .no/\∃p,g = .kid p .nil/\p.isN=true/\p.Ok:=by
 refine⟨h.2.2.1 rfl,z3S h.1 h.2.2.2.2.2.2.2 (by rw[h.2.2.2.1];rfl) ?_ ?_⟩
 ·have:=h.2.2.2.2.1;by_cases hb:g.binds=[];exact hb;exact absurd (this hb) (by decide)
 ·have:=h.2.2.2.2.2.1;by_cases hb:g.alts=[];exact hb;exact absurd (this hb) (by decide)
theorem zV6 (d : Db) (τ : ByteArray -> Db) (x : ByteArray) : zAM (sb τ d) x ↔ ∃ a, zAM d a /\ zAM (τ a) x := by
  induction d with
  | fr s => simp [sb, zAM]
  | app a b iha ihb => simp only [sb, zAM, iha, ihb]; constructor
                       · rintro (⟨a, h1, h2⟩ | ⟨a, h1, h2⟩); exact ⟨a, .inl h1, h2⟩; exact ⟨a, .inr h1, h2⟩
                       · rintro ⟨a, h1 | h1, h2⟩; exact .inl ⟨a, h1, h2⟩; exact .inr ⟨a, h1, h2⟩
  | all a ih => simp only [sb, zAM, ih]
  | _ => simp [sb, zAM]
theorem z3U (d : DC) (τ : ByteArray -> Db) (x : ByteArray) : qF (sbD .fr τ d) x ↔ ∃ a, qF d a /\ zAM (τ a) x := by
  induction d with
  | node f n s t g ih => simp only [sbD, qF, ih, zV6]; constructor
                         · rintro (⟨a, h1, h2⟩ | ⟨a, h1, h2⟩); exact ⟨a, .inl h1, h2⟩; exact ⟨a, .inr h1, h2⟩
                         · rintro ⟨a, h1 | h1, h2⟩; exact .inl ⟨a, h1, h2⟩; exact .inr ⟨a, h1, h2⟩
  | kid p r ihp ihr => simp only [sbD, qF, ihp, ihr]; constructor
                       · rintro (⟨a, h1, h2⟩ | ⟨a, h1, h2⟩); exact ⟨a, .inl h1, h2⟩; exact ⟨a, .inr h1, h2⟩
                       · rintro ⟨a, h1 | h1, h2⟩; exact .inl ⟨a, h1, h2⟩; exact .inr ⟨a, h1, h2⟩
  | bind t p r ihp ihr => simp only [sbD, qF, ihp, ihr, zV6]; constructor
                          · rintro (⟨a, h1, h2⟩ | ⟨a, h1, h2⟩ | ⟨a, h1, h2⟩); exact ⟨a, .inl h1, h2⟩; exact ⟨a, .inr (.inl h1), h2⟩; exact ⟨a, .inr (.inr h1), h2⟩
                          · rintro ⟨a, h1 | h1 | h1, h2⟩; exact .inl ⟨a, h1, h2⟩; exact .inr (.inl ⟨a, h1, h2⟩); exact .inr (.inr ⟨a, h1, h2⟩)
  | alt f n s k p r ihp ihr => simp only [sbD, qF, ihp, ihr]; constructor
                               · rintro (⟨a, h1, h2⟩ | ⟨a, h1, h2⟩); exact ⟨a, .inl h1, h2⟩; exact ⟨a, .inr h1, h2⟩
                               · rintro ⟨a, h1 | h1, h2⟩; exact .inl ⟨a, h1, h2⟩; exact .inr ⟨a, h1, h2⟩
  | _ => simp [sbD, qF]
theorem zPF (t:Tp):sub t []=t:=by
 induction t with
 | all s a ih=>simp[sub,kept,caught,memb,ih]
 | app a b iha ihb=>simp only[sub,iha,ihb]
 | var s=>simp[sub,look]
 | _=>rfl
def AgT (S:List ByteArray) (ps:Env') (d d':List ByteArray) (τ:ByteArray->Db):Prop :=
 ∀a∈S,(a∈d/\∃a',wS a ps = .var a'/\a'∈d'/\ixN d' a'=ixN d a)∨(a∉d/\(∀x∈fv (wS a ps),x∉d')/\τ a=db (wS a ps) [])
theorem AgT.mono {S S':List ByteArray} {ps:Env'} {d d':List ByteArray} {τ:ByteArray->Db} (h:AgT S ps d d' τ) (hs:∀a∈S',a∈S):AgT S' ps d d' τ:=fun a ha=>h a (hs a ha)
theorem AgT.subD {t:Tp} {ps:Env'} {d d':List ByteArray} {τ:ByteArray->Db} (h:AgT (fv t) ps d d' τ):db (sub t ps) d'=sb τ (db t d):=z8B t ps d d' τ h
theorem zZ1 (c:Cr):∀(e d d':List ByteArray) (τ:ByteArray->Db),c.Ok->AgT c.tv [] d d' τ->dbc c e d'=sbD .fr τ (dbc c e d):=by
 induction c with
 | nil=>intro e d d' τ _ _;rfl
 | node f n s t g ih =>
  intro e d d' τ ho h;simp only[dbc];by_cases h1:f=1
  ·rw[if_pos h1,if_pos h1];split<;>rfl
  ·rw[if_neg h1,if_neg h1];simp only[sbD];by_cases h7:f=7
   ·subst h7;have ht:t = .no:=ho.2.2.1 rfl;subst ht;rw[if_pos rfl,if_pos rfl];have hsub:AgT g.tv [] (s::d) (s::d') τ:=fun a ha=>by
     by_cases has:a=s
     ·subst has;exact .inl ⟨by simp,a,rfl,by simp,by simp[ixN]⟩
     ·rcases h a (mem_tv_node.2 (.inr ⟨ha,fun q=>has q.2⟩)) with⟨q1,a',q2,q3,q4⟩|⟨q1,q2,q3⟩
      ·have e1:a'=a:=by have:Tp.var a=Tp.var a':=q2;injection this with this;exact this.symm
       subst e1;exact .inl ⟨by simp[q1],a',rfl,by simp[q3],by rw[zEK (Ne.symm has),zEK (Ne.symm has),q4]⟩
      ·refine .inr ⟨by simp[has,q1],fun x hx=>?_,q3⟩;have hx':x=a:=by simpa[wS,look,fv] using hx
       subst hx';simp only[List.mem_cons,not_or];exact⟨has,q2 x hx⟩
    rw[ih _ _ _ _ (zY ho).2 hsub];rfl
   ·rw[if_neg h7,if_neg h7];have h2:AgT (fv t) [] d d' τ:=h.mono fun a ha=>mem_tv_node.2 (.inl ha);have:=h2.subD;rw[zPF] at this;rw[this,ih _ _ _ _ (zY ho).2 (h.mono fun a ha=>mem_tv_node.2 (.inr ⟨ha,fun q=>h7 q.1⟩))]
 | kid p r ihp ihr =>
  intro e d d' τ ho h;simp only[dbc,sbD];rw[ihp _ _ _ _ ho.2.2.1 (h.mono fun a ha=>mem_tv_kid.2 (.inl ha)),ihr _ _ _ _ ho.2.2.2 (h.mono fun a ha=>mem_tv_kid.2 (.inr ha))]
 | bind x t p r ihp ihr =>
  intro e d d' τ ho h;simp only[dbc,sbD];have h2:AgT (fv t) [] d d' τ:=h.mono fun a ha=>mem_tv_bind.2 (.inl ha);have:=h2.subD;rw[zPF] at this;rw[this,ihp _ _ _ _ ho.2.2.2.1 (h.mono fun a ha=>mem_tv_bind.2 (.inr (.inl ha))),ihr _ _ _ _ ho.2.2.2.2 (h.mono fun a ha=>mem_tv_bind.2 (.inr (.inr ha)))]
 | alt f n s vs p r ihp ihr =>
  intro e d d' τ ho h;simp only[dbc,sbD];rw[ihp _ _ _ _ ho.2.2.2.2.2.1 (h.mono fun a ha=>mem_tv_alt.2 (.inl ha)),ihr _ _ _ _ ho.2.2.2.2.2.2 (h.mono fun a ha=>mem_tv_alt.2 (.inr ha))]
theorem zAU (k:Nat) (c:Cr) (v:ByteArray) (t:Tp):(stF k c v t).isN=c.isN:=by
 cases k with
 | zero=>cases c<;>rfl
 | succ k=>cases c<;>simp only[stF]<;>first|rfl|(split<;>(try split)<;>(try split)<;>rfl)
section
variable {φ:Cr->Cr} {τ:Tp->Tp} {ν:ByteArray->ByteArray} {α:List ByteArray->Cr->List ByteArray×Cr}
theorem zUP {g:Cr} (h:g.isN=false) (ho:g.Ok) (hk:∀p∈g.kids,(φ p).sz=p.sz) (hb:∀b∈g.binds,(φ b.2.2).sz=b.2.2.sz) (ha:∀a∈g.alts,(α a.2.1 a.2.2).2.sz=a.2.2.sz):(zZ φ τ ν α g).sz=g.sz:=by
 induction g with
 | nil=>rfl
 | node=>cases h
 | kid p r _ ih =>
  simp only[zZ,Cr.sz,Cr.kids,List.mem_cons,forall_eq_or_imp] at hk⊢;rw[hk.1,ih ho.2.1 ho.2.2.2 hk.2 hb ha]
 | bind x t p r _ ih =>
  simp only[zZ,Cr.sz,Cr.binds,List.mem_cons,forall_eq_or_imp] at hb⊢;rw[hb.1,ih ho.2.1 ho.2.2.2.2 hk hb.2 ha]
 | alt f n s vs p r _ ih =>
  simp only[zZ,Cr.sz,Cr.alts,List.mem_cons,forall_eq_or_imp] at ha⊢;rw[ha.1,ih ho.2.1 ho.2.2.2.2.2.2 hk hb ha.2]
theorem z4Y {g:Cr} (h:g.isN=false) (ho:g.Ok) (hk:∀p∈g.kids,(φ p).fv=p.fv) (hb:∀b∈g.binds,(φ b.2.2).fv=b.2.2.fv) (ha:∀a∈g.alts,(α a.2.1 a.2.2).2.fv=a.2.2.fv/\(α a.2.1 a.2.2).1=a.2.1):(zZ φ τ ν α g).fv=g.fv:=by
 induction g with
 | nil=>rfl
 | node=>cases h
 | kid p r _ ih =>
  simp only[zZ,Cr.fv,Cr.kids,List.mem_cons,forall_eq_or_imp] at hk⊢;rw[hk.1,ih ho.2.1 ho.2.2.2 hk.2 hb ha]
 | bind x t p r _ ih =>
  simp only[zZ,Cr.fv,Cr.binds,List.mem_cons,forall_eq_or_imp] at hb⊢;rw[hb.1,ih ho.2.1 ho.2.2.2.2 hk hb.2 ha]
 | alt f n s vs p r _ ih =>
  simp only[zZ,Cr.fv,Cr.alts,List.mem_cons,forall_eq_or_imp] at ha⊢;rw[ha.1.1,ha.1.2,ih ho.2.1 ho.2.2.2.2.2.2 hk hb ha.2]
theorem zUN {g:Cr} (h:g.isN=false) (ho:g.Ok) (hk:∀p∈g.kids,(φ p).Ok/\(φ p).isN=true) (hb:∀b∈g.binds,(φ b.2.2).Ok/\(φ b.2.2).isN=true) (ha:∀a∈g.alts,(α a.2.1 a.2.2).2.Ok/\(α a.2.1 a.2.2).2.isN=true/\(α a.2.1 a.2.2).1.Nodup):(zZ φ τ ν α g).Ok:=by
 induction g with
 | nil=>trivial
 | node=>cases h
 | kid p r _ ih =>
  simp only[zZ,Cr.kids,List.mem_cons,forall_eq_or_imp] at hk⊢;exact⟨hk.1.2,by rw[zGK];exact ho.2.1,hk.1.1,ih ho.2.1 ho.2.2.2 hk.2 hb ha⟩
 | bind x t p r _ ih =>
  simp only[zZ,Cr.binds,List.mem_cons,forall_eq_or_imp] at hb⊢;exact⟨hb.1.2,by rw[zGK];exact ho.2.1,by rw[zCR ho.2.1 ho.2.2.2.2,ho.2.2.1];rfl,hb.1.1,ih ho.2.1 ho.2.2.2.2 hk hb.2 ha⟩
 | alt f n s vs p r _ ih =>
  simp only[zZ,Cr.alts,List.mem_cons,forall_eq_or_imp] at ha⊢;exact⟨ha.1.2.1,by rw[zGK];exact ho.2.1,by rw[zCR ho.2.1 ho.2.2.2.2.2.2,ho.2.2.1];rfl,by rw[wJ ho.2.1 ho.2.2.2.2.2.2,ho.2.2.2.1];rfl,ha.1.2.2,ha.1.1,ih ho.2.1 ho.2.2.2.2.2.2 hk hb ha.2⟩
theorem zUL {f n:Int} {s s':ByteArray} {t t':Tp} {g:Cr} (ho:(Cr.node f n s t g).Ok) (ht:t = .no->t' = .no) (hm:(zZ φ τ ν α g).Ok) (hn:((g.binds.map (·.1)).map ν).Nodup):(Cr.node f n s' t' (zZ φ τ ν α g)).Ok:=by
 obtain⟨h1,h2,h3,h4,h5,h6,h7,h8⟩:=ho;refine⟨by rw[zGK];exact h1,fun hf=>⟨ht (h2 hf).1,by rw[(h2 hf).2];rfl⟩,fun hf=>ht (h3 hf),by rw[zCR h1 h8,List.length_map];exact h4,fun hb=>h5 fun q=>hb ?_,fun hb=>h6 fun q=>hb ?_,?_,hm⟩
 ·rw[wJ h1 h8,q];rfl
 ·rw[zHM h1 h8,q];rfl
 ·rw[wJ h1 h8,List.map_map];rw[List.map_map] at hn;exact hn
end
theorem xA (k:Nat):∀(c:Cr) (v:ByteArray) (t:Tp),c.Ok->(stF k c v t).sz=c.sz/\(stF k c v t).fv=c.fv/\(stF k c v t).Ok:=by
 induction k with
 | zero=>intro c v t ho;cases c<;>exact⟨rfl,rfl,ho⟩
 | succ k ih =>
  intro c v t ho;cases c with
  | node f n s ty g =>
   obtain⟨hg,hgo⟩:=zY ho;simp only[stF];have gen:∀(φ:Cr->Cr) (τ:Tp->Tp) (α:List ByteArray->Cr->List ByteArray×Cr) (s':ByteArray) (ty':Tp),(ty = .no->ty' = .no)->(f=5->s'=s)->(f=1->s'=s)->(∀p,p.isN=true->p.Ok->(φ p).sz=p.sz/\(φ p).fv=p.fv/\(φ p).Ok/\(φ p).isN=true)->(∀vs p,p.isN=true->p.Ok->(α vs p).1=vs/\(α vs p).2.sz=p.sz/\(α vs p).2.fv=p.fv/\(α vs p).2.Ok/\(α vs p).2.isN=true) ->
     (Cr.node f n s' ty' (zZ φ τ id α g)).sz=(Cr.node f n s ty g).sz/\(Cr.node f n s' ty' (zZ φ τ id α g)).fv=(Cr.node f n s ty g).fv/\(Cr.node f n s' ty' (zZ φ τ id α g)).Ok:=fun φ τ α s' ty' hty h5 h1 hφ hα=>by
    have hk:∀p∈g.kids,_:=fun p hp=>hφ p (hgo.kid hp).1 (hgo.kid hp).2;have hb:∀b∈g.binds,_:=fun b hb=>hφ b.2.2 (hgo.bind hb).1 (hgo.bind hb).2;have ha:∀a∈g.alts,_:=fun a ha=>hα a.2.1 a.2.2 (hgo.alt ha).1 (hgo.alt ha).2.1;refine⟨?_,?_,?_⟩
    ·simp only[Cr.sz];rw[zUP hg hgo (fun p hp=>(hk p hp).1) (fun b hp=>(hb b hp).1) (fun a hp=>(ha a hp).2.1)]
    ·have e1:(Cr.node f n s' ty' (zZ φ τ id α g)).names0=(Cr.node f n s ty g).names0:=by
      simp only[Cr.names0,Cr.own,Cr.binds];rw[wJ hg hgo,List.map_map];by_cases hf:f=5
      ·rw[if_pos hf,if_pos hf,h5 hf];rfl
      ·rw[if_neg hf,if_neg hf];rfl
     simp only[Cr.fv,e1];rw[z4Y hg hgo (fun p hp=>(hk p hp).2.1) (fun b hp=>(hb b hp).2.1) (fun a hp=>⟨(ha a hp).2.2.1,(ha a hp).1⟩)];by_cases hf:f=1
     ·rw[if_pos hf,if_pos hf,h1 hf]
     ·rw[if_neg hf,if_neg hf]
    ·refine zUL ho hty (zUN hg hgo (fun p hp=>(hk p hp).2.2) (fun b hp=>(hb b hp).2.2) (fun a hp=>⟨(ha a hp).2.2.2.1,(ha a hp).2.2.2.2,by rw[(ha a hp).1];exact (hgo.alt hp).2.2⟩)) (by rw[List.map_id];exact ho.2.2.2.2.2.2.1)
   have one:∀v t p,p.isN=true->p.Ok->(stF k p v t).sz=p.sz/\(stF k p v t).fv=p.fv/\(stF k p v t).Ok/\(stF k p v t).isN=true:=fun v t p hn hp=>⟨(ih p v t hp).1,(ih p v t hp).2.1,(ih p v t hp).2.2,by rw[zAU];exact hn⟩
   by_cases h7:f=7
   ·rw[if_pos h7];split
    ·exact⟨rfl,rfl,ho⟩
    split
    ·refine gen _ _ _ _ _ id (fun h=>by omega) (fun h=>by omega) (fun p hn hp=>?_) (fun vs p hn hp=>⟨rfl,rfl,rfl,hp,hn⟩);obtain⟨q1,q2,q3,q4⟩:=one s (.var (lett (ff (fvT t++g.tv)))) p hn hp;obtain⟨r1,r2,r3,r4⟩:=one v t _ q4 q3;exact⟨r1.trans q1,r2.trans q2,r3,r4⟩
    ·exact gen _ _ _ _ _ id (fun h=>rfl) (fun h=>rfl) (fun p hn hp=>one v t p hn hp) (fun vs p hn hp=>⟨rfl,rfl,rfl,hp,hn⟩)
   ·rw[if_neg h7];exact gen _ _ _ _ _ (fun h=>by rw[h];rfl) (fun h=>rfl) (fun h=>rfl) (fun p hn hp=>one v t p hn hp) (fun vs p hn hp=>⟨rfl,one v t p hn hp⟩)
  | _=>exact⟨rfl,rfl,ho⟩
set_option maxHeartbeats 2000000
theorem z0B {p:Cr}:(Cr.kid p .nil).sz=p.sz:=by simp[Cr.sz]
theorem zS4 {p:Cr}:(Cr.kid p .nil).tv=p.tv:=rfl
theorem z8A {p:Cr}:(Cr.kid p .nil).fv=p.fv:=rfl
theorem zA3 (c:Cr):∀(e d:List ByteArray) (x:ByteArray),c.Ok->(qF (dbc c e d) x↔x∈c.tv/\x∉d):=by
 induction c with
 | nil=>intro e d x _;simp[dbc,qF,Cr.tv]
 | node f n s t g ih =>
  intro e d x ho;simp only[dbc];by_cases h1:f=1
  ·obtain⟨ht,hg⟩:=ho.2.1 h1;subst ht;subst hg;subst h1;rw[if_pos rfl];have:x∉(Cr.node 1 n s .no .nil).tv:=by rw[mem_tv_node];simp[fv,Cr.tv,fvT]
   split<;>simp[qF,this]
  ·rw[if_neg h1];simp only[qF,zPB,ih _ _ _ (zY ho).2,mem_tv_node,fvT];by_cases h7:f=7
   ·subst h7;have ht:t = .no:=ho.2.2.1 rfl;subst ht;simp only[if_pos,List.mem_cons,not_or,fv,List.not_mem_nil,false_and,false_or,true_and];constructor
    ·rintro⟨q1,q2,q3⟩;exact⟨⟨q1,q2⟩,q3⟩
    ·rintro⟨⟨q1,q2⟩,q3⟩;exact⟨q1,q2,q3⟩
   ·simp only[if_neg h7,h7,false_and,not_false_eq_true,and_true];constructor
    ·rintro (⟨q1,q2⟩|⟨q1,q2⟩);exact⟨.inl q1,q2⟩;exact⟨.inr q1,q2⟩
    ·rintro⟨q1|q1,q2⟩;exact .inl ⟨q1,q2⟩;exact .inr ⟨q1,q2⟩
 | kid p r ihp ihr =>
  intro e d x ho;simp only[dbc,qF,ihp _ _ _ ho.2.2.1,ihr _ _ _ ho.2.2.2,mem_tv_kid];constructor
  ·rintro (⟨q1,q2⟩|⟨q1,q2⟩);exact⟨.inl q1,q2⟩;exact⟨.inr q1,q2⟩
  ·rintro⟨q1|q1,q2⟩;exact .inl ⟨q1,q2⟩;exact .inr ⟨q1,q2⟩
 | bind y t p r ihp ihr =>
  intro e d x ho;simp only[dbc,qF,zPB,ihp _ _ _ ho.2.2.2.1,ihr _ _ _ ho.2.2.2.2,mem_tv_bind,fvT];constructor
  ·rintro (⟨q1,q2⟩|⟨q1,q2⟩|⟨q1,q2⟩);exact⟨.inl q1,q2⟩;exact⟨.inr (.inl q1),q2⟩;exact⟨.inr (.inr q1),q2⟩
  ·rintro⟨q1|q1|q1,q2⟩;exact .inl ⟨q1,q2⟩;exact .inr (.inl ⟨q1,q2⟩);exact .inr (.inr ⟨q1,q2⟩)
 | alt f n s vs p r ihp ihr =>
  intro e d x ho;simp only[dbc,qF,ihp _ _ _ ho.2.2.2.2.2.1,ihr _ _ _ ho.2.2.2.2.2.2,mem_tv_alt];constructor
  ·rintro (⟨q1,q2⟩|⟨q1,q2⟩);exact⟨.inl q1,q2⟩;exact⟨.inr q1,q2⟩
  ·rintro⟨q1|q1,q2⟩;exact .inl ⟨q1,q2⟩;exact .inr ⟨q1,q2⟩
theorem zAL (n:Int) (s:ByteArray) (p:Cr) (e d:List ByteArray):dbc (.node 7 n s .no (.kid p .nil)) e d = .node 7 n .empty .no (.kid (dbc p e (s::d)) .nil):=by
 show (if (7:Int)=1 then _ else _)=_;rw[if_neg (by decide)]
 rfl
theorem zCL (a v:ByteArray) (t:Tp):wS a [(v,t)]=if v=a then t else .var a:=by
 simp only[wS,look];split<;>rfl
theorem zUQ (a x:ByteArray):x∈fv (.var a)↔x=a:=by simp[fv]
theorem AgT.renew {S:List ByteArray} {s z:ByteArray} {d:List ByteArray} (hz:z∉S):AgT S [(s,.var z)] (s::d) (z::d) .fr:=fun a ha=>by
 rw[zCL];have hza:z≠a:=fun h=>hz (h ▸ ha);by_cases has:s=a
 ·subst has;rw[if_pos rfl];exact .inl ⟨by simp,z,rfl,by simp,by simp[ixN]⟩
 ·rw[if_neg has];by_cases had:a∈d
  ·exact .inl ⟨List.mem_cons_of_mem _ had,a,rfl,List.mem_cons_of_mem _ had,by rw[zEK hza,zEK has]⟩
  ·refine .inr ⟨fun h=>by rcases List.mem_cons.1 h with h|h;exact has h.symm;exact had h,fun x hx=>?_,by simp[db,memb]⟩;rw[zUQ] at hx;subst hx;exact fun h=>by rcases List.mem_cons.1 h with h|h;exact hza h.symm;exact had h
theorem AgT.under {S S0:List ByteArray} {v z:ByteArray} {t:Tp} {d d':List ByteArray} {τ:ByteArray->Db} (h:AgT S0 [(v,t)] d d' τ) (hz:z≠v) (hzt:z∉fv t) (hS:∀a∈S,a=z∨(a≠z/\a∈S0)):AgT S [(v,t)] (z::d) (z::d') τ:=fun a ha=>by
 rcases hS a ha with rfl|⟨haz,ha0⟩
 ·rw[zCL,if_neg (Ne.symm hz)];exact .inl ⟨by simp,a,rfl,by simp,by simp[ixN]⟩
 ·have hn:∀x∈fv (wS a [(v,t)]),x≠z:=fun x hx=>by
   rw[zCL] at hx;split at hx
   ·exact fun q=>hzt (q ▸ hx)
   ·rw[zUQ] at hx;subst hx;exact haz
  rcases h a ha0 with⟨q1,a',q2,q3,q4⟩|⟨q1,q2,q3⟩
  ·have:a'≠z:=hn a' (by rw[q2];simp[fv]);exact .inl ⟨by simp[q1],a',q2,by simp[q3],by rw[zEK (Ne.symm this),zEK (Ne.symm haz),q4]⟩
  ·exact .inr ⟨by simp[haz,q1],fun x hx=>by simp only[List.mem_cons,not_or];exact⟨hn x hx,q2 x hx⟩,q3⟩
theorem tvk {g:Cr} (hg:g.isN=false) (hgo:g.Ok):∀p∈g.kids,∀a∈p.tv,a∈g.tv:=by
 induction g with
 | nil=>simp[Cr.kids]
 | node=>cases hg
 | kid q r _ ihr =>
  simp only[Cr.kids,List.mem_cons,forall_eq_or_imp];exact⟨fun a ha=>mem_tv_kid.2 (.inl ha),fun p hp a ha=>mem_tv_kid.2 (.inr (ihr hgo.2.1 hgo.2.2.2 p hp a ha))⟩
 | bind x t q r _ ihr=>exact fun p hp a ha=>mem_tv_bind.2 (.inr (.inr (ihr hgo.2.1 hgo.2.2.2.2 p hp a ha)))
 | alt f n s vs q r _ ihr=>exact fun p hp a ha=>mem_tv_alt.2 (.inr (ihr hgo.2.1 hgo.2.2.2.2.2.2 p hp a ha))
theorem tvb {g:Cr} (hg:g.isN=false) (hgo:g.Ok):∀b∈g.binds,(∀a∈b.2.2.tv,a∈g.tv)/\(∀a∈fv b.2.1,a∈g.tv):=by
 induction g with
 | nil=>simp[Cr.binds]
 | node=>cases hg
 | kid q r _ ihr=>exact fun b hb=>⟨fun a ha=>mem_tv_kid.2 (.inr ((ihr hgo.2.1 hgo.2.2.2 b hb).1 a ha)),fun a ha=>mem_tv_kid.2 (.inr ((ihr hgo.2.1 hgo.2.2.2 b hb).2 a ha))⟩
 | bind x t q r _ ihr =>
  simp only[Cr.binds,List.mem_cons,forall_eq_or_imp];exact⟨⟨fun a ha=>mem_tv_bind.2 (.inr (.inl ha)),fun a ha=>mem_tv_bind.2 (.inl ha)⟩,fun b hb=>⟨fun a ha=>mem_tv_bind.2 (.inr (.inr ((ihr hgo.2.1 hgo.2.2.2.2 b hb).1 a ha))),fun a ha=>mem_tv_bind.2 (.inr (.inr ((ihr hgo.2.1 hgo.2.2.2.2 b hb).2 a ha)))⟩⟩
 | alt f n s vs q r _ ihr=>exact fun b hb=>⟨fun a ha=>mem_tv_alt.2 (.inr ((ihr hgo.2.1 hgo.2.2.2.2.2.2 b hb).1 a ha)),fun a ha=>mem_tv_alt.2 (.inr ((ihr hgo.2.1 hgo.2.2.2.2.2.2 b hb).2 a ha))⟩
theorem tva {g:Cr} (hg:g.isN=false) (hgo:g.Ok):∀b∈g.alts,∀a∈b.2.2.tv,a∈g.tv:=by
 induction g with
 | nil=>simp[Cr.alts]
 | node=>cases hg
 | kid q r _ ihr=>exact fun b hb a ha=>mem_tv_kid.2 (.inr (ihr hgo.2.1 hgo.2.2.2 b hb a ha))
 | bind x t q r _ ihr=>exact fun b hb a ha=>mem_tv_bind.2 (.inr (.inr (ihr hgo.2.1 hgo.2.2.2.2 b hb a ha)))
 | alt f n s vs q r _ ihr =>
  simp only[Cr.alts,List.mem_cons,forall_eq_or_imp];exact⟨fun a ha=>mem_tv_alt.2 (.inl ha),fun b hb a ha=>mem_tv_alt.2 (.inr (ihr hgo.2.1 hgo.2.2.2.2.2.2 b hb a ha))⟩
theorem z1Q (k : Nat) : ∀ (c : Cr) (v : ByteArray) (t : Tp) (e d d' : List ByteArray) (τ : ByteArray -> Db), c.Ok -> c.isN = true -> c.sz <= k -> AgT c.tv [(v, t)] d d' τ -> dbc (stF k c v t) e d' = sbD .fr τ (dbc c e d) := by
  induction k with
  | zero => intro c v t e d d' τ ho hn hk; cases c <;> first | (cases hn; done) | (simp [Cr.sz] at hk; done) | skip
            all_goals (simp only [Cr.sz] at hk; omega)
  | succ k ih =>
    intro c v t e d d' τ ho hn hk h;cases c with
    | node f n s ty g =>
      obtain ⟨hg, hgo⟩ := zY ho;have hkg : g.sz <= k := by simp only [Cr.sz] at hk; omega
      simp only [stF];by_cases h7 : f = 7
      · subst h7
        obtain ⟨hty, p, rfl, hpn, hpo⟩ := zP8 ho;subst hty;rw [z0B] at hkg;rw [if_pos rfl, zS4];have htv : ∀ a, a ∈ (Cr.node 7 n s .no (.kid p .nil)).tv ↔ a ∈ p.tv /\ a ≠ s := fun a => by rw [mem_tv_node, zS4]; simp [fv, fvT]
        have names : ∀ (p' : Cr) (z : ByteArray), (Cr.node 7 n z .no (.kid p' .nil)).names0.reverse ++ e = e := fun p' z => rfl;split
        · rename_i hs
          refine zZ1 _ e d d' τ ho fun a ha => ?_;have hva : a ≠ v := fun hav => by
            subst hav;have := (htv a).1 ha;rcases hs with hs | hs
            · exact this.2 hs.symm
            · exact hs this.1
          have := h a ha;rw [zCL, if_neg (Ne.symm hva)] at this;exact this
        · rename_i hs
          simp only [not_or, Decidable.not_not] at hs;split
          · rename_i hst
            obtain ⟨z, hz⟩ : ∃ z, z = lett (ff (fvT t ++ p.tv)) := ⟨_, rfl⟩
            have hnew : z ∉ fvT t ++ p.tv := hz ▸ zDA _;simp only [List.mem_append, not_or] at hnew;rw [<- hz];obtain ⟨q1, q2, q3⟩ := xA k p s (.var z) hpo;have qn : (stF k p s (.var z)).isN = true := by rw [zAU]; exact hpn
            simp only [zZ];rw [zAL, zAL];simp only [sbD];have e1 : dbc (stF k p s (.var z)) e (z :: d) = dbc p e (s :: d) := by
              rw [ih p s (.var z) e (s :: d) (z :: d) .fr hpo hpn hkg (AgT.renew hnew.2), zSR]
            have e1' : dbc (stF k p s (.var z)) [] [] = sbD .fr (fun y => if y = s then .fr z else .fr y) (dbc p [] []) := ih p s (.var z) [] [] [] _ hpo hpn hkg fun a ha => .inr ⟨by simp, fun x hx => by simp, by
              rw [zCL];by_cases has : s = a
              · rw [if_pos has, if_pos has.symm]; simp [db, memb]
              · rw [if_neg has, if_neg (Ne.symm has)]; simp [db, memb]⟩
            have htv1 : ∀ a ∈ (stF k p s (.var z)).tv, a = z ∨ (a ≠ z /\ a ∈ (Cr.node 7 n s .no (.kid p .nil)).tv) := fun a ha => by
              have := (zA3 _ [] [] a q3).2 ⟨ha, by simp⟩;rw [e1', z3U] at this;obtain ⟨b, hb1, hb2⟩ := this;have hbp := ((zA3 p [] [] b hpo).1 hb1).1;by_cases hbs : b = s
              · rw [if_pos hbs] at hb2; exact .inl hb2
              · rw [if_neg hbs] at hb2
                have : a = b := hb2;subst this;exact .inr ⟨fun q => hnew.2 (q ▸ hbp), (htv a).2 ⟨hbp, hbs⟩⟩
            rw [ih _ v t e (z :: d) (z :: d') τ q3 qn (by rw [q1]; exact hkg) (h.under (fun q => hnew.2 (q ▸ hs.2)) hnew.1 htv1), e1]
            rfl
          · rename_i hst
            simp only [zZ];rw [zAL, zAL];simp only [sbD];rw [ih p v t e (s :: d) (s :: d') τ hpo hpn hkg (h.under hs.1 hst fun a ha => by
              by_cases has : a = s
              · exact .inl has
              · exact .inr ⟨has, (htv a).2 ⟨ha, has⟩⟩)]
            rfl
      · rw [if_neg h7]
        have hn0 : (Cr.node f n s (sub ty [(v, t)]) (zZ (fun p => stF k p v t) (fun u => sub u [(v, t)]) id (fun vs p => (vs, stF k p v t)) g)).names0 = (Cr.node f n s ty g).names0 := by
          simp only [Cr.names0, Cr.own, Cr.binds];rw [wJ hg hgo, List.map_map]; rfl
        simp only [dbc];by_cases h1 : f = 1
        · rw [if_pos h1, if_pos h1]; split <;> rfl
        · rw [if_neg h1, if_neg h1, hn0, if_neg h7, if_neg h7]
          simp only [sbD];have hall : ∀ a, a ∈ fv ty ∨ a ∈ g.tv -> a ∈ (Cr.node f n s ty g).tv := fun a ha => mem_tv_node.2 (ha.imp id fun q => ⟨q, fun q => h7 q.1⟩);rw [AgT.subD (t := ty) (h.mono fun a ha => hall a (.inl ha))];rw [zJY (σ := .fr) (υ := τ) (e := (Cr.node f n s ty g).names0.reverse ++ e) (d := d) hg hgo]
          · intro p hp
            have := zH9 hp;exact ih p v t _ d d' τ (hgo.kid hp).2 (hgo.kid hp).1 (by omega) (h.mono fun a ha => hall a (.inr (tvk hg hgo p hp a ha)))
          · intro b hb
            have := zET hb;exact ⟨ih b.2.2 v t _ d d' τ (hgo.bind hb).2 (hgo.bind hb).1 (by omega) (h.mono fun a ha => hall a (.inr ((tvb hg hgo b hb).1 a ha))), AgT.subD (h.mono fun a ha => hall a (.inr ((tvb hg hgo b hb).2 a ha)))⟩
          · intro a ha
            have := zIP ha;exact ⟨rfl, ih a.2.2 v t _ d d' τ (hgo.alt ha).2.1 (hgo.alt ha).1 (by omega) (h.mono fun x hx => hall x (.inr (tva hg hgo a ha x hx)))⟩
    | _ => cases hn
noncomputable def st (c:Cr) (v:ByteArray) (t:Tp):Cr:=stF c.sz c v t
noncomputable def outs (far:List ByteArray):List ByteArray->List ByteArray->List ByteArray
 | [],_=>[]
 | n::ns,tk=>if n∈far then lett (ff tk)::outs far ns (tk++[lett (ff tk)]) else n::outs far ns tk
theorem zLP {a z n:ByteArray} {r:List (ByteArray×ByteArray)} (h:n≠a):nw ((a,z)::r) n=nw r n:=by simp[nw,Ne.symm h]
theorem zIC (far:List ByteArray):∀(ns tk:List ByteArray),∀q∈rens far ns tk,q.1∈ns
 | [],_,q,h=>by simp[rens] at h
 | n::ns,tk,q,h=>by
  simp only[rens] at h;split at h
  ·rcases List.mem_cons.1 h with rfl|h
   ·simp
   ·exact List.mem_cons_of_mem _ (zIC far ns _ q h)
  ·exact List.mem_cons_of_mem _ (zIC far ns _ q h)
theorem z5G:∀(r:List (ByteArray×ByteArray)) (n:ByteArray),(∀q∈r,q.1≠n)->nw r n=n
 | [],_,_=>rfl
 | (a,z)::r,n,h=>by
  rw[zLP (fun e=>h (a,z) (by simp) e.symm)];exact z5G r n fun q hq=>h q (by simp[hq])
theorem zJ0 (far:List ByteArray):∀(ns tk:List ByteArray),ns.Nodup->ns.map (nw (rens far ns tk))=outs far ns tk
 | [],_,_=>rfl
 | n::ns,tk,h=>by
  have hn:=List.nodup_cons.1 h;simp only[rens,outs];split
  ·rw[List.map_cons]
   congr 1
   ·simp[nw]
   ·rw[<-zJ0 far ns _ hn.2];refine List.map_congr_left fun x hx=>?_;have hxn:x≠n:=fun e=>hn.1 (by rw[<-e];exact hx);rw[zLP hxn]
  ·rw[List.map_cons,zJ0 far ns tk hn.2]
   congr 1
   exact z5G _ _ fun q hq e=>hn.1 (by have:=zIC far ns tk q hq;rw[e] at this;exact this)
theorem zDY (far:List ByteArray):∀(ns tk:List ByteArray),∀o∈outs far ns tk,(o∈ns/\o∉far)∨o∉tk
 | [],_,o,h=>by simp[outs] at h
 | n::ns,tk,o,h=>by
  simp only[outs] at h;split at h<;>rename_i hf
  ·rcases List.mem_cons.1 h with rfl|h
   ·exact .inr (zDA tk)
   ·rcases zDY far ns _ o h with⟨h1,h2⟩|h1
    ·exact .inl ⟨by simp[h1],h2⟩
    ·exact .inr fun q=>h1 (by simp[q])
  ·rcases List.mem_cons.1 h with rfl|h
   ·exact .inl ⟨by simp,hf⟩
   ·rcases zDY far ns _ o h with⟨h1,h2⟩|h1
    ·exact .inl ⟨by simp[h1],h2⟩
    ·exact .inr h1
theorem zDF (far:List ByteArray):∀(ns tk:List ByteArray),ns.Nodup->(∀x∈ns,x∈tk)->(outs far ns tk).Nodup
 | [],_,_,_=>List.nodup_nil
 | n::ns,tk,h,hs=>by
  have hn:=List.nodup_cons.1 h;simp only[outs];split<;>rename_i hf
  ·refine List.nodup_cons.2 ⟨fun hm=>?_,zDF far ns _ hn.2 fun x hx=>by simp[hs x (by simp[hx])]⟩;rcases zDY far ns _ _ hm with⟨h1,_⟩|h1
   ·exact zDA tk (hs _ (by simp[h1]))
   ·exact h1 (by simp)
  ·refine List.nodup_cons.2 ⟨fun hm=>?_,zDF far ns _ hn.2 fun x hx=>hs x (by simp[hx])⟩;rcases zDY far ns _ _ hm with⟨h1,_⟩|h1
   ·exact hn.1 h1
   ·exact h1 (hs _ (by simp))
theorem z5A {R E:List ByteArray} {n z y:ByteArray} (h1:y≠n) (h2:y≠z):ixN (R++n::E) y=ixN (R++z::E) y:=by
 induction R with
 | nil=>simp only[List.nil_append,ixN,if_neg (Ne.symm h1),if_neg (Ne.symm h2)]
 | cons a R ih=>simp only[List.cons_append,ixN,ih]
theorem zSO {R E:List ByteArray} {n:ByteArray} (h:n∉R):ixN (R++n::E) n=R.length:=by
 induction R with
 | nil=>simp[ixN]
 | cons a R ih =>
  simp only[List.mem_cons,not_or] at h;simp only[List.cons_append,ixN,if_neg (Ne.symm h.1),ih h.2,List.length_cons]
theorem zSM {R E E':List ByteArray} {y:ByteArray} (h:y∈R):ixN (R++E) y=ixN (R++E') y:=by
 induction R with
 | nil=>cases h
 | cons a R ih =>
  simp only[List.cons_append,ixN];split
  ·rfl
  ·rename_i hn;rcases List.mem_cons.1 h with e|e
   ·exact absurd e.symm hn
   ·rw[ih e]
theorem zFC {R E:List ByteArray} {y:ByteArray} (h:y∉R):ixN (R++E) y=R.length+ixN E y:=by
 induction R with
 | nil=>simp
 | cons a R ih =>
  simp only[List.mem_cons,not_or] at h;simp only[List.cons_append,ixN,if_neg (Ne.symm h.1),ih h.2,List.length_cons];omega
def x9 (y x:ByteArray) (b:Cr):Cr:=if x=y then b else vr y
theorem zLB (y:ByteArray):(vr y).fv=[y]:=zDS _ _ _ _
theorem zNR (y:ByteArray):(vr y).tv=[]:=rfl
theorem z9Z (y:ByteArray) (e d:List ByteArray):dbc (vr y) e d=if memb y e then .bv (ixN e y) else .fr y:=by simp[dbc]
theorem zIA (y:ByteArray):dbc (vr y) [] [] = .fr y:=by simp[dbc,memb]
def AgC (S:List ByteArray) (x:ByteArray) (b:Cr) (e e' d:List ByteArray) (σ:ByteArray->DC):Prop :=
 ∀y∈S,(y∈e/\∃y',x9 y x b=vr y'/\y'∈e'/\ixN e' y'=ixN e y)∨(y∉e/\(∀z∈(x9 y x b).fv,z∉e')/\(∀z∈(x9 y x b).tv,z∉d)/\σ y=dbc (x9 y x b) [] [])
theorem z0S (c:Cr):∀(l m e d:List ByteArray),c.Ok->(∀x∈c.fv,x∉l->x∉e)->(∀x∈c.tv,x∉m->x∉d)->dbc c (l++e) (m++d)=dbc c l m:=by
 induction c with
 | nil=>intros;rfl
 | node f n s t g ih =>
  intro l m e d ho h1 h2;simp only[dbc];by_cases hf:f=1
  ·subst hf;rw[if_pos rfl,if_pos rfl];rw[zDS] at h1;have h1:=h1 s (by simp);by_cases hs:s∈l
   ·rw[if_pos (yE (by simp[hs])),if_pos (yE hs),zUX hs]
   ·rw[if_neg (by rw[xH (by simp[hs,h1 hs])];simp),if_neg (by rw[xH hs];simp)]
  ·rw[if_neg hf,if_neg hf,<-List.append_assoc];have h1':∀x∈g.fv,x∉(Cr.node f n s t g).names0.reverse++l->x∉e:=fun x hx hn=>by
    simp only[List.mem_append,List.mem_reverse,not_or] at hn;exact h1 x ((wF hf).2 ⟨hx,hn.1⟩) hn.2
   by_cases h7:f=7
   ·subst h7;have ht:t = .no:=ho.2.2.1 rfl;subst ht;simp only[if_pos];have:=ih ((Cr.node 7 n s .no g).names0.reverse++l) (s::m) e d (zY ho).2 h1' fun x hx hn=>by
     simp only[List.mem_cons,not_or] at hn;exact h2 x (mem_tv_node.2 (.inr ⟨hx,fun q=>hn.1 q.2⟩)) hn.2
    rw[show s::(m++d)=(s::m)++d from rfl,this];rfl
   ·rw[if_neg h7,if_neg h7,zOD t m d (fun x hx=>h2 x (mem_tv_node.2 (.inl hx)))];rw[ih _ m e d (zY ho).2 h1' fun x hx=>h2 x (mem_tv_node.2 (.inr ⟨hx,fun q=>h7 q.1⟩))]
 | kid p r ihp ihr =>
  intro l m e d ho h1 h2;simp only[dbc];rw[ihp l m e d ho.2.2.1 (fun x hx=>h1 x (mem_fv_kid.2 (.inl hx))) (fun x hx=>h2 x (mem_tv_kid.2 (.inl hx))),ihr l m e d ho.2.2.2 (fun x hx=>h1 x (mem_fv_kid.2 (.inr hx))) (fun x hx=>h2 x (mem_tv_kid.2 (.inr hx)))]
 | bind y t p r ihp ihr =>
  intro l m e d ho h1 h2;simp only[dbc];rw[zOD t m d (fun x hx=>h2 x (mem_tv_bind.2 (.inl hx))),ihp l m e d ho.2.2.2.1 (fun x hx=>h1 x (mem_fv_bind.2 (.inl hx))) (fun x hx=>h2 x (mem_tv_bind.2 (.inr (.inl hx)))),ihr l m e d ho.2.2.2.2 (fun x hx=>h1 x (mem_fv_bind.2 (.inr hx))) (fun x hx=>h2 x (mem_tv_bind.2 (.inr (.inr hx))))]
 | alt f n s vs p r ihp ihr =>
  intro l m e d ho h1 h2;simp only[dbc];rw[<-List.append_assoc,ihp (vs.reverse++l) m e d ho.2.2.2.2.2.1 (fun x hx hn=>by
    simp only[List.mem_append,List.mem_reverse,not_or] at hn;exact h1 x (mem_fv_alt.2 (.inl ⟨hx,hn.1⟩)) hn.2) (fun x hx=>h2 x (mem_tv_alt.2 (.inl hx))),ihr l m e d ho.2.2.2.2.2.2 (fun x hx=>h1 x (mem_fv_alt.2 (.inr hx))) (fun x hx=>h2 x (mem_tv_alt.2 (.inr hx)))]
theorem zV7 (c:Cr):∀(e e' d:List ByteArray) (σ:ByteArray->DC),c.Ok->(∀y∈c.fv,(y∈e/\y∈e'/\ixN e' y=ixN e y)∨(y∉e/\y∉e'/\σ y = .fr y))->dbc c e' d=sbD σ .fr (dbc c e d):=by
 have inner:∀(ns e e':List ByteArray) (y:ByteArray) (σ:ByteArray->DC),(y∉ns->(y∈e/\y∈e'/\ixN e' y=ixN e y)∨(y∉e/\y∉e'/\σ y = .fr y)) ->
   (y∈ns.reverse++e/\y∈ns.reverse++e'/\ixN (ns.reverse++e') y=ixN (ns.reverse++e) y)∨(y∉ns.reverse++e/\y∉ns.reverse++e'/\σ y = .fr y):=fun ns e e' y σ h=>by
  by_cases hy:y∈ns
  ·exact .inl ⟨by simp[hy],by simp[hy],zSM (by simpa using hy)⟩
  ·have hr:y∉ns.reverse:=by simpa using hy
   rcases h hy with⟨q1,q2,q3⟩|⟨q1,q2,q3⟩
   ·exact .inl ⟨by simp[q1],by simp[q2],by rw[zFC hr,zFC hr,q3]⟩
   ·exact .inr ⟨by simp[hy,q1],by simp[hy,q2],q3⟩
 induction c with
 | nil=>intros;rfl
 | node f n s t g ih =>
  intro e e' d σ ho h;simp only[dbc];by_cases hf:f=1
  ·subst hf;rw[if_pos rfl,if_pos rfl];rcases h s (by rw[zDS];simp) with⟨q1,q2,q3⟩|⟨q1,q2,q3⟩
   ·rw[if_pos (yE q1),if_pos (yE q2),q3];rfl
   ·rw[if_neg (by rw[xH q2];simp),if_neg (by rw[xH q1];simp)];exact q3.symm
  ·rw[if_neg hf,if_neg hf];simp only[sbD,zCX];rw[ih _ _ _ σ (zY ho).2 fun y hy=>inner _ e e' y σ fun hn=>h y ((wF hf).2 ⟨hy,hn⟩)]
 | kid p r ihp ihr =>
  intro e e' d σ ho h;simp only[dbc,sbD];rw[ihp e e' d σ ho.2.2.1 (fun x hx=>h x (mem_fv_kid.2 (.inl hx))),ihr e e' d σ ho.2.2.2 (fun x hx=>h x (mem_fv_kid.2 (.inr hx)))]
 | bind y t p r ihp ihr =>
  intro e e' d σ ho h;simp only[dbc,sbD,zCX];rw[ihp e e' d σ ho.2.2.2.1 (fun x hx=>h x (mem_fv_bind.2 (.inl hx))),ihr e e' d σ ho.2.2.2.2 (fun x hx=>h x (mem_fv_bind.2 (.inr hx)))]
 | alt f n s vs p r ihp ihr =>
  intro e e' d σ ho h;simp only[dbc,sbD];rw[ihp _ _ d σ ho.2.2.2.2.2.1 (fun y hy=>inner _ e e' y σ fun hn=>h y (mem_fv_alt.2 (.inl ⟨hy,hn⟩))),ihr e e' d σ ho.2.2.2.2.2.2 (fun x hx=>h x (mem_fv_alt.2 (.inr hx)))]
theorem zD2 (c:Cr):∀(e d:List ByteArray) (x:ByteArray),0<yK (dbc c e d) x↔x∈c.fv/\x∉e:=by
 induction c with
 | nil=>intro e d x;simp[dbc,yK,Cr.fv]
 | node f n s t g ih =>
  intro e d x;simp only[dbc];by_cases hf:f=1
  ·subst hf;rw[if_pos rfl,zDS];by_cases hs:s∈e
   ·rw[if_pos (yE hs)];simp only[yK,Nat.lt_irrefl,List.mem_singleton,false_iff,not_and,Decidable.not_not];rintro rfl;exact hs
   ·rw[if_neg (by rw[xH hs];simp)];simp only[yK,List.mem_singleton];by_cases hx:x=s
    ·subst hx;simp[hs]
    ·simp[hx]
  ·rw[if_neg hf];simp only[yK,ih,wF hf,List.mem_append,List.mem_reverse,not_or,and_assoc]
 | kid p r ihp ihr =>
  intro e d x;have h1:=ihp e d x;have h2:=ihr e d x;simp only[dbc,yK,mem_fv_kid];rw[show 0<yK (dbc p e d) x+yK (dbc r e d) x↔0<yK (dbc p e d) x∨0<yK (dbc r e d) x by omega,h1,h2,or_and_right]
 | bind y t p r ihp ihr =>
  intro e d x;have h1:=ihp e d x;have h2:=ihr e d x;simp only[dbc,yK,mem_fv_bind];rw[show 0<yK (dbc p e d) x+yK (dbc r e d) x↔0<yK (dbc p e d) x∨0<yK (dbc r e d) x by omega,h1,h2,or_and_right]
 | alt f n s vs p r ihp ihr =>
  intro e d x;have h1:=ihp (vs.reverse++e) d x;have h2:=ihr e d x;simp only[dbc,yK,mem_fv_alt];rw[show 0<yK (dbc p (vs.reverse++e) d) x+yK (dbc r e d) x↔0<yK (dbc p (vs.reverse++e) d) x∨0<yK (dbc r e d) x by omega,h1,h2,or_and_right];simp only[List.mem_append,List.mem_reverse,not_or,and_assoc]
theorem zFB (c:Cr):∀(e d:List ByteArray),c.Ok->szD (dbc c e d)=c.sz:=by
 induction c with
 | nil=>intros;rfl
 | node f n s t g ih =>
  intro e d ho;simp only[dbc];by_cases hf:f=1
  ·rw[if_pos hf,(ho.2.1 hf).2];split<;>rfl
  ·rw[if_neg hf];simp only[szD,Cr.sz,ih _ _ (zY ho).2]
 | kid p r ihp ihr=>intro e d ho;simp only[dbc,szD,Cr.sz,ihp _ _ ho.2.2.1,ihr _ _ ho.2.2.2]
 | bind y t p r ihp ihr=>intro e d ho;simp only[dbc,szD,Cr.sz,ihp _ _ ho.2.2.2.1,ihr _ _ ho.2.2.2.2]
 | alt f n s vs p r ihp ihr=>intro e d ho;simp only[dbc,szD,Cr.sz,ihp _ _ ho.2.2.2.2.2.1,ihr _ _ ho.2.2.2.2.2.2]
theorem z3E (d:DC) (x:ByteArray) (b:DC) (σ:ByteArray->DC) (τ:ByteArray->Db) (hx:σ x=b) (ho:∀y,y≠x->σ y = .fr y) (y:ByteArray):yK (sbD σ τ d) y=(if y=x then 0 else yK d y)+yK d x*yK b y:=by
 induction d with
 | fr s =>
  by_cases hs:s=x
  ·subst hs;simp only[sbD,hx,yK,if_pos];by_cases hy:y=s
   ·simp[hy]
   ·simp[hy]
  ·simp only[sbD,ho s hs,yK,if_neg (Ne.symm hs)];by_cases hy:y=x
   ·subst hy;simp[Ne.symm hs]
   ·simp[hy]
 | node f n s t g ih=>simp only[sbD,yK,ih]
 | kid p r ihp ihr=>simp only[sbD,yK,ihp,ihr,Nat.add_mul];split<;>omega
 | bind t p r ihp ihr=>simp only[sbD,yK,ihp,ihr,Nat.add_mul];split<;>omega
 | alt f n s k p r ihp ihr=>simp only[sbD,yK,ihp,ihr,Nat.add_mul];split<;>omega
 | _=>simp[sbD,yK]
theorem z6U (d:DC) (x:ByteArray) (b:DC) (σ:ByteArray->DC) (τ:ByteArray->Db) (hx:σ x=b) (ho:∀y,y≠x->σ y = .fr y):szD (sbD σ τ d)+yK d x=szD d+yK d x*szD b:=by
 induction d with
 | fr s =>
  by_cases hs:s=x
  ·subst hs;simp only[sbD,hx,yK,szD,if_pos];omega
  ·simp only[sbD,ho s hs,yK,szD,if_neg (Ne.symm hs)];omega
 | node f n s t g ih=>simp only[sbD,yK,szD];omega
 | kid p r ihp ihr=>simp only[sbD,yK,szD,Nat.add_mul];omega
 | bind t p r ihp ihr=>simp only[sbD,yK,szD,Nat.add_mul];omega
 | alt f n s k p r ihp ihr=>simp only[sbD,yK,szD,Nat.add_mul];omega
 | _=>simp[sbD,yK,szD]
set_option maxHeartbeats 4000000
noncomputable abbrev zPO (k:Nat) (rs:List (ByteArray×ByteArray)) (p:Cr):Cr:=rs.foldl (fun p q=>sbF k p q.1 (vr q.2)) p
theorem zGT {f n:Int} {s:ByteArray} {t:Tp} {g:Cr} (ho:(Cr.node f n s t g).Ok):(Cr.node f n s t g).names0.Nodup:=by
 obtain⟨h1,h2,h3,h4,h5,h6,h7,h8⟩:=ho;simp only[Cr.names0,Cr.own,Cr.binds];by_cases hf:f=5
 ·have:g.binds=[]:=by by_cases hb:g.binds=[];exact hb;have:=h5 hb;omega
  rw[if_pos hf,this];simp
 ·rw[if_neg hf];exact h7
theorem zA6 {f n:Int} {s:ByteArray} {t:Tp} {g:Cr} (ho:(Cr.node f n s t g).Ok) (h:g.alts≠[]):(Cr.node f n s t g).names0=[]:=by
 obtain⟨h1,h2,h3,h4,h5,h6,h7,h8⟩:=ho;have hf:=h6 h;simp only[Cr.names0,Cr.own,Cr.binds];have:g.binds=[]:=by by_cases hb:g.binds=[];exact hb;have:=h5 hb;omega
 rw[this,if_neg (by omega)];rfl
theorem zSN {f n:Int} {s:ByteArray} {t t':Tp} {g:Cr} {φ:Cr->Cr} {τ:Tp->Tp} {ν:ByteArray->ByteArray} {α:List ByteArray->Cr->List ByteArray×Cr} (ho:(Cr.node f n s t g).Ok) :
  (Cr.node f n (if f=5 then ν s else s) t' (zZ φ τ ν α g)).names0=(Cr.node f n s t g).names0.map ν:=by
 obtain⟨hg,hgo⟩:=zY ho;simp only[Cr.names0,Cr.own,Cr.binds,wJ hg hgo,List.map_map,List.map_append]
 congr 1
 by_cases hf:f=5
 ·simp[hf]
 ·simp[hf]
theorem zMI {g p:Cr} (h:p∈g.kids):∀y∈p.fv,y∈g.parts0.flatMap Cr.fv:=fun y hy=>List.mem_flatMap.2 ⟨p,List.mem_append_left _ h,hy⟩
theorem zKO {g:Cr} {b:ByteArray×Tp×Cr} (h:b∈g.binds):∀y∈b.2.2.fv,y∈g.parts0.flatMap Cr.fv:=fun y hy=>List.mem_flatMap.2 ⟨b.2.2,List.mem_append_right _ (List.mem_map.2 ⟨b,h,rfl⟩),hy⟩
theorem fvk {g:Cr} (hg:g.isN=false) (ho:g.Ok):∀p∈g.kids,∀a∈p.fv,a∈g.fv:=by
 induction g with
 | nil=>simp[Cr.kids]
 | node=>cases hg
 | kid q r _ ihr =>
  simp only[Cr.kids,List.mem_cons,forall_eq_or_imp];exact⟨fun a ha=>mem_fv_kid.2 (.inl ha),fun p hp a ha=>mem_fv_kid.2 (.inr (ihr ho.2.1 ho.2.2.2 p hp a ha))⟩
 | bind x t q r _ ihr=>exact fun p hp a ha=>mem_fv_bind.2 (.inr (ihr ho.2.1 ho.2.2.2.2 p hp a ha))
 | alt f n s vs q r _ ihr=>exact fun p hp a ha=>mem_fv_alt.2 (.inr (ihr ho.2.1 ho.2.2.2.2.2.2 p hp a ha))
theorem fvb {g:Cr} (hg:g.isN=false) (ho:g.Ok):∀b∈g.binds,∀a∈b.2.2.fv,a∈g.fv:=by
 induction g with
 | nil=>simp[Cr.binds]
 | node=>cases hg
 | kid q r _ ihr=>exact fun b hb a ha=>mem_fv_kid.2 (.inr (ihr ho.2.1 ho.2.2.2 b hb a ha))
 | bind x t q r _ ihr =>
  simp only[Cr.binds,List.mem_cons,forall_eq_or_imp];exact⟨fun a ha=>mem_fv_bind.2 (.inl ha),fun b hb a ha=>mem_fv_bind.2 (.inr (ihr ho.2.1 ho.2.2.2.2 b hb a ha))⟩
 | alt f n s vs q r _ ihr=>exact fun b hb a ha=>mem_fv_alt.2 (.inr (ihr ho.2.1 ho.2.2.2.2.2.2 b hb a ha))
theorem fva {g:Cr} (hg:g.isN=false) (ho:g.Ok):∀b∈g.alts,∀a∈b.2.2.fv,a∉b.2.1->a∈g.fv:=by
 induction g with
 | nil=>simp[Cr.alts]
 | node=>cases hg
 | kid q r _ ihr=>exact fun b hb a ha hn=>mem_fv_kid.2 (.inr (ihr ho.2.1 ho.2.2.2 b hb a ha hn))
 | bind x t q r _ ihr=>exact fun b hb a ha hn=>mem_fv_bind.2 (.inr (ihr ho.2.1 ho.2.2.2.2 b hb a ha hn))
 | alt f n s vs q r _ ihr =>
  simp only[Cr.alts,List.mem_cons,forall_eq_or_imp];exact⟨fun a ha hn=>mem_fv_alt.2 (.inl ⟨ha,hn⟩),fun b hb a ha hn=>mem_fv_alt.2 (.inr (ihr ho.2.1 ho.2.2.2.2.2.2 b hb a ha hn))⟩
theorem zIF {fr ns far:List ByteArray} {x:ByteArray} {rs:List (ByteArray×ByteArray)} (h:plan fr ns x far=some rs):x∈fr/\x∉ns/\rs=rens far ns (fr++ns++far):=by
 unfold plan at h;split at h
 ·rename_i q;injection h with h;exact⟨q.1,q.2,h.symm⟩
 ·cases h
theorem zWW {fr ns far:List ByteArray} {x:ByteArray} (h:plan fr ns x far=none):x∈fr->x∈ns:=fun h1=>by
 unfold plan at h;split at h
 ·cases h
 ·rename_i q;by_cases hx:x∈ns
  ·exact hx
  ·exact absurd ⟨h1,hx⟩ q
theorem zBT (z:ByteArray):(vr z).Ok:=⟨rfl,fun _=>⟨rfl,rfl⟩,fun h=>absurd h (by decide),rfl,fun h=>absurd rfl h,fun h=>absurd rfl h,List.nodup_nil,trivial⟩
theorem zRG (z:ByteArray):(vr z).sz=1:=rfl
abbrev Stays (k:Nat):Prop := ∀(c:Cr) (x:ByteArray) (b:Cr),c.isN=true->c.Ok->b.isN=true->b.Ok->(sbF k c x b).isN=true/\(sbF k c x b).Ok/\(b.sz=1->(sbF k c x b).sz=c.sz)
theorem zO6 {k:Nat} (ih:Stays k):∀(rs:List (ByteArray×ByteArray)) (p:Cr),p.isN=true->p.Ok->(zPO k rs p).isN=true/\(zPO k rs p).Ok/\(zPO k rs p).sz=p.sz
 | [],p,h1,h2=>⟨h1,h2,rfl⟩
 | q::rs,p,h1,h2=>by
  obtain⟨a1,a2,a3⟩:=ih p q.1 (vr q.2) h1 h2 rfl (zBT _);obtain⟨b1,b2,b3⟩:=zO6 ih rs _ a1 a2;exact⟨b1,b2,b3.trans (a3 (zRG _))⟩
theorem zZ0 {φ:List (ByteArray×ByteArray)->Cr->Cr} {x:ByteArray} {far vs:List ByteArray} {p:Cr} {N:Prop} (hv:vs.Nodup) (h1:p.isN=true) (h2:p.Ok) (h:∀rs,(φ rs p).isN=true/\(φ rs p).Ok/\(N->(φ rs p).sz=p.sz)) :
  (wE φ x far vs p).1.Nodup/\(wE φ x far vs p).2.isN=true/\(wE φ x far vs p).2.Ok/\(N->(wE φ x far vs p).2.sz=p.sz):=by
 unfold wE;cases hp:plan p.fv vs x far with
 | none=>exact⟨hv,h1,h2,fun _=>rfl⟩
 | some rs =>
  obtain⟨q1,q2,q3⟩:=zIF hp;refine⟨?_,h rs⟩;show (vs.map (nw rs)).Nodup;rw[q3,zJ0 _ _ _ hv];exact zDF _ _ _ hv fun y hy=>by simp[hy]
theorem qK (k:Nat):Stays k:=by
 induction k with
 | zero=>intro c x b hn ho _ _;cases c<;>first|(cases hn;done)|exact⟨rfl,ho,fun _=>rfl⟩
 | succ k ih =>
  intro c x b hn ho hbn hbo;cases c with
  | node f n s t g =>
   obtain⟨hg,hgo⟩:=zY ho;simp only[sbF];have gen:∀(φ:Cr->Cr) (ν:ByteArray->ByteArray) (α:List ByteArray->Cr->List ByteArray×Cr) (s':ByteArray),((g.binds.map (·.1)).map ν).Nodup->(∀p,p.isN=true->p.Ok->(φ p).isN=true/\(φ p).Ok/\(b.sz=1->(φ p).sz=p.sz))->(∀vs p,vs.Nodup->p.isN=true->p.Ok->(α vs p).1.Nodup/\(α vs p).2.isN=true/\(α vs p).2.Ok/\(b.sz=1->(α vs p).2.sz=p.sz)) ->
     (Cr.node f n s' t (zZ φ id ν α g)).isN=true/\(Cr.node f n s' t (zZ φ id ν α g)).Ok/\(b.sz=1->(Cr.node f n s' t (zZ φ id ν α g)).sz=(Cr.node f n s t g).sz):=fun φ ν α s' hν hφ hα=>by
    have hk:∀p∈g.kids,_:=fun p hp=>hφ p (hgo.kid hp).1 (hgo.kid hp).2;have hb:∀b∈g.binds,_:=fun b hb=>hφ b.2.2 (hgo.bind hb).1 (hgo.bind hb).2;have ha:∀a∈g.alts,_:=fun a ha=>hα a.2.1 a.2.2 (hgo.alt ha).2.2 (hgo.alt ha).1 (hgo.alt ha).2.1;refine⟨rfl,zUL ho id (zUN hg hgo (fun p hp=>⟨(hk p hp).2.1,(hk p hp).1⟩) (fun b hp=>⟨(hb b hp).2.1,(hb b hp).1⟩) (fun a hp=>⟨(ha a hp).2.2.1,(ha a hp).2.1,(ha a hp).1⟩)) hν,fun h1=>?_⟩;simp only[Cr.sz];rw[zUP hg hgo (fun p hp=>(hk p hp).2.2 h1) (fun b hp=>(hb b hp).2.2 h1) (fun a hp=>(ha a hp).2.2.2 h1)]
   have one:∀(rs:List (ByteArray×ByteArray)) (p:Cr),p.isN=true->p.Ok->(sbF k (zPO k rs p) x b).isN=true/\(sbF k (zPO k rs p) x b).Ok/\(b.sz=1->(sbF k (zPO k rs p) x b).sz=p.sz):=fun rs p h1 h2=>by
    obtain⟨a1,a2,a3⟩:=zO6 ih rs p h1 h2;obtain⟨b1,b2,b3⟩:=ih _ x b a1 a2 hbn hbo;exact⟨b1,b2,fun q=>(b3 q).trans a3⟩
   have alt:∀(vs:List ByteArray) (p:Cr),vs.Nodup->p.isN=true->p.Ok->_:=fun vs p hv h1 h2=>zZ0 (φ:=fun rs p=>sbF k (rs.foldl (fun p q=>sbF k p q.1 (vr q.2)) p) x b) (x:=x) (far:=b.fv) (N:=b.sz=1) hv h1 h2 fun rs=>one rs p h1 h2;have hid:((g.binds.map (·.1)).map id).Nodup:=by rw[List.map_id];exact ho.2.2.2.2.2.2.1
   split
   ·split
    ·exact⟨hbn,hbo,fun hb1=>by rename_i h1 _;rw[hb1,(ho.2.1 h1).2];rfl⟩
    ·exact⟨rfl,ho,fun _=>rfl⟩
   split
   ·split
    ·split
     ·refine gen _ _ _ _ hid (fun p hn hp=>?_) (fun vs p hv hn hp=>⟨hv,hn,hp,fun _=>rfl⟩);obtain⟨q1,q2,q3⟩:=xA k p s (.var (lett (ff (b.tv++g.tv)))) hp;obtain⟨r1,r2,r3⟩:=ih _ x b (by rw[zAU];exact hn) q3 hbn hbo;exact⟨r1,r2,fun q=>(r3 q).trans q1⟩
     ·exact gen _ _ _ _ hid (fun p hn hp=>ih p x b hn hp hbn hbo) (fun vs p hv hn hp=>⟨hv,hn,hp,fun _=>rfl⟩)
    ·exact⟨rfl,ho,fun _=>rfl⟩
   ·split
    ·exact gen _ _ _ _ hid (fun p hn hp=>⟨hn,hp,fun _=>rfl⟩) alt
    ·rename_i rs hp;obtain⟨q1,q2,q3⟩:=zIF hp;refine gen _ _ _ _ ?_ (one rs) alt;have hnd:=zGT ho;have:((Cr.node f n s t g).names0.map (nw rs)).Nodup:=by
      rw[q3,zJ0 _ _ _ hnd];exact zDF _ _ _ hnd fun y hy=>List.mem_append_left _ (List.mem_append_right _ hy)
     simp only[Cr.names0,List.map_append] at this;exact (List.nodup_append.1 this).2.1
  | _=>cases hn
abbrev z4P (k:Nat):Prop := ∀(c:Cr) (x:ByteArray) (b:Cr) (e e' d:List ByteArray) (σ:ByteArray->DC),c.Ok->c.isN=true->b.Ok->b.isN=true->c.sz<=k->AgC c.fv x b e e' d σ->dbc (sbF k c x b) e' d=sbD σ .fr (dbc c e d)
theorem zJ1 {k:Nat} (ih:z4P k) {c b:Cr} {x:ByteArray} (ho:c.Ok) (hn:c.isN=true) (hbo:b.Ok) (hbn:b.isN=true) (hk:c.sz<=k) (y:ByteArray):y∈(sbF k c x b).fv↔(y≠x/\y∈c.fv)∨(x∈c.fv/\y∈b.fv):=by
 have h1:dbc (sbF k c x b) [] []=sbD (fun y=>dbc (x9 y x b) [] []) .fr (dbc c [] []):=ih c x b [] [] [] _ ho hn hbo hbn hk fun y hy => .inr ⟨by simp,by simp,by simp,rfl⟩;have h2:=zD2 (sbF k c x b) [] [] y;rw[h1,z3E _ x (dbc b [] []) _ _ (by simp[x9]) (fun z hz=>by simp only[x9,if_neg (Ne.symm hz)];exact zIA z)] at h2;have h3:=zD2 c [] [] y;have h4:=zD2 c [] [] x;have h5:=zD2 b [] [] y;simp only[List.not_mem_nil,not_false_eq_true,and_true] at h2 h3 h4 h5;rw[<-h2,<-h3,<-h4,<-h5];by_cases hy:y=x
 ·rw[if_pos hy,Nat.zero_add];constructor
  ·intro h;exact .inr ⟨Nat.pos_of_mul_pos_right h,Nat.pos_of_mul_pos_left h⟩
  ·rintro (h|⟨h,h'⟩)
   ·exact absurd hy h.1
   ·exact Nat.mul_pos h h'
 ·rw[if_neg hy];constructor
  ·intro h;rcases Nat.eq_zero_or_pos (yK (dbc c [] []) y) with h0|h0
   ·rw[h0,Nat.zero_add] at h;exact .inr ⟨Nat.pos_of_mul_pos_right h,Nat.pos_of_mul_pos_left h⟩
   ·exact .inl ⟨hy,h0⟩
  ·rintro (⟨_,h⟩|⟨h,h'⟩)
   ·omega
   ·have:=Nat.mul_pos h h';omega
theorem zTH {k:Nat} (ih:z4P k) (far e d:List ByteArray):∀(ns tk pre:List ByteArray) (p:Cr),ns.Nodup->p.isN=true->p.Ok->p.sz<=k->(∀y∈p.fv,y∈tk)->(∀y∈ns,y∈tk) ->
  dbc (zPO k (rens far ns tk) p) ((pre++outs far ns tk).reverse++e) d=dbc p ((pre++ns).reverse++e) d/\(∀y∈(zPO k (rens far ns tk) p).fv,y∈outs far ns tk∨(y∈p.fv/\(y∈ns->y∉far)))
 | [],tk,pre,p,_,_,_,_,_,_=>⟨rfl,fun y hy => .inr ⟨hy,fun h=>by cases h⟩⟩
 | n::ns,tk,pre,p,hnd,hpn,hpo,hk,hfv,hns=>by
  have hn:=List.nodup_cons.1 hnd;simp only[rens,outs];by_cases hf:n∈far
  ·rw[if_pos hf,if_pos hf];obtain⟨z,hz⟩:∃z,z=lett (ff tk):=⟨_,rfl⟩
   have hnew:z∉tk:=hz ▸ zDA tk;rw[<-hz];obtain⟨a1,a2,a3⟩:=qK k p n (vr z) hpn hpo rfl (zBT z);have a3:=a3 (zRG z);have hfree:∀y,y∈(sbF k p n (vr z)).fv↔(y≠n/\y∈p.fv)∨(n∈p.fv/\y=z):=fun y=>by rw[zJ1 ih hpo hpn (zBT z) rfl hk,zLB];simp
   have hzns:z∉ns.reverse:=fun h=>hnew (hns z (by simp at h;simp[h]));have hnns:n∉ns.reverse:=by simpa using hn.1
   have e1:dbc (sbF k p n (vr z)) (ns.reverse++z::(pre.reverse++e)) d=dbc p (ns.reverse++n::(pre.reverse++e)) d:=by
    rw[ih p n (vr z) (ns.reverse++n::(pre.reverse++e)) (ns.reverse++z::(pre.reverse++e)) d .fr hpo hpn (zBT z) rfl hk (fun y hy=>?_),zSR];have hyz:y≠z:=fun h=>hnew (h ▸ hfv y hy);by_cases hyn:y=n
    ·subst hyn;exact .inl ⟨by simp,z,by simp[x9],by simp,by rw[zSO hnns,zSO hzns]⟩
    ·have hl:x9 y n (vr z)=vr y:=by simp[x9,Ne.symm hyn]
     rw[hl];by_cases hin:y∈ns.reverse++(pre.reverse++e)
     ·have:y∈ns∨y∈pre∨y∈e:=by simpa using hin
      refine .inl ⟨?_,y,rfl,?_,(z5A hyn hyz).symm⟩<;>(simp only[List.mem_append,List.mem_reverse,List.mem_cons];rcases this with h|h|h<;>simp[h])
     ·have:¬(y∈ns∨y∈pre∨y∈e):=by simpa using hin
      simp only[not_or] at this;refine .inr ⟨?_,fun w hw=>?_,by simp[zNR],(zIA y).symm⟩
      ·simp[this,hyn]
      ·rw[zLB] at hw;simp only[List.mem_singleton] at hw;subst hw;simp[this,hyz]
   obtain⟨i1,i2⟩:=zTH ih far e d ns (tk++[z]) (pre++[z]) (sbF k p n (vr z)) hn.2 a1 a2 (by omega) (fun y hy=>by
    rcases (hfree y).1 hy with⟨_,h⟩|⟨_,h⟩
    ·simp[hfv y h]
    ·simp[h]) (fun y hy=>by simp[hns y (by simp[hy])])
   refine⟨?_,fun y hy=>?_⟩
   ·have e2:(pre++z::outs far ns (tk++[z])).reverse++e=(pre++[z]++outs far ns (tk++[z])).reverse++e:=by simp
    have e3:(pre++[z]++ns).reverse++e=ns.reverse++z::(pre.reverse++e):=by simp
    have e4:(pre++n::ns).reverse++e=ns.reverse++n::(pre.reverse++e):=by simp
    rw[e2,e4,<-e1,<-e3];exact i1
   ·rcases i2 y hy with h|⟨h1,h2⟩
    ·exact .inl (by simp[h])
    ·rcases (hfree y).1 h1 with⟨h3,h4⟩|⟨_,h4⟩
     ·exact .inr ⟨h4,fun h=>by rcases List.mem_cons.1 h with h|h;exact absurd h h3;exact h2 h⟩
     ·exact .inl (by simp[h4])
  ·rw[if_neg hf,if_neg hf];obtain⟨i1,i2⟩:=zTH ih far e d ns tk (pre++[n]) p hn.2 hpn hpo hk hfv (fun y hy=>hns y (by simp[hy]));refine⟨by simpa using i1,fun y hy=>?_⟩;rcases i2 y hy with h|⟨h1,h2⟩
   ·exact .inl (by simp[h])
   ·exact .inr ⟨h1,fun h=>by rcases List.mem_cons.1 h with h|h;exact h ▸ hf;exact h2 h⟩
theorem zNK (far:List ByteArray):∀(ns tk:List ByteArray) (y:ByteArray),y∈ns->y∉far->y∈outs far ns tk
 | n::ns,tk,y,h,hf=>by
  simp only[outs];rcases List.mem_cons.1 h with rfl|h
  ·rw[if_neg hf];simp
  ·split<;>exact List.mem_cons_of_mem _ (zNK far ns _ y h hf)
theorem AgC.stay {S:List ByteArray} {x:ByteArray} {b:Cr} {e e' d:List ByteArray} {σ:ByteArray->DC} (h:AgC S x b e e' d σ) (hx:∀y∈S,y≠x):∀y∈S,(y∈e/\y∈e'/\ixN e' y=ixN e y)∨(y∉e/\y∉e'/\σ y = .fr y):=fun y hy=>by
 have h:=h y hy;rw[show x9 y x b=vr y by simp[x9,Ne.symm (hx y hy)]] at h;rcases h with⟨q1,y',q2,q3,q4⟩|⟨q1,q2,q3,q4⟩
 ·injection q2 with _ _ q2;subst q2;exact .inl ⟨q1,q3,q4⟩
 ·exact .inr ⟨q1,q2 y (by rw[zLB];simp),by rw[q4,zIA]⟩
theorem zP1 {k:Nat} (ih:z4P k) {ns fr:List ByteArray} {p b:Cr} {x:ByteArray} {e e' d:List ByteArray} {σ:ByteArray->DC} (hnd:ns.Nodup) (hpn:p.isN=true) (hpo:p.Ok) (hbo:b.Ok) (hbn:b.isN=true) (hk:p.sz<=k) (hfr:∀y∈p.fv,y∈fr)
  (h:∀y∈p.fv,y∉ns->(y∈e/\∃y',x9 y x b=vr y'/\y'∈e'/\ixN e' y'=ixN e y)∨(y∉e/\(∀z∈(x9 y x b).fv,z∉e')/\(∀z∈(x9 y x b).tv,z∉d)/\σ y=dbc (x9 y x b) [] [])) :
  (plan fr ns x b.fv=none->dbc p (ns.reverse++e') d=sbD σ .fr (dbc p (ns.reverse++e) d)) /\
  ∀rs,plan fr ns x b.fv=some rs->dbc (sbF k (zPO k rs p) x b) ((ns.map (nw rs)).reverse++e') d=sbD σ .fr (dbc p (ns.reverse++e) d):=by
 refine⟨fun hp=>?_,fun rs hp=>?_⟩
 ·have hx:=zWW hp;refine zV7 p _ _ d σ hpo fun y hy=>?_;by_cases hyn:y∈ns
  ·exact .inl ⟨by simp[hyn],by simp[hyn],zSM (by simpa using hyn)⟩
  ·have hr:y∉ns.reverse:=by simpa using hyn
   have hyx:y≠x:=fun q=>hyn (q ▸ hx (q ▸ hfr y hy));have:=h y hy hyn;rw[show x9 y x b=vr y by simp[x9,Ne.symm hyx]] at this;rcases this with⟨q1,y',q2,q3,q4⟩|⟨q1,q2,q3,q4⟩
   ·injection q2 with _ _ q2;subst q2
    exact .inl ⟨by simp[q1],by simp[q3],by rw[zFC hr,zFC hr,q4]⟩
   ·exact .inr ⟨by simp[hyn,q1],by simp[hyn,q2 y (by rw[zLB];simp)],by rw[q4,zIA]⟩
 ·obtain⟨hx1,hx2,rfl⟩:=zIF hp;obtain⟨tk,htk⟩:∃tk,tk=fr++ns++b.fv:=⟨_,rfl⟩
  rw[<-htk,zJ0 _ _ _ hnd];obtain⟨r1,r2⟩:=zTH ih b.fv e d ns tk [] p hnd hpn hpo hk (fun y hy=>by rw[htk];simp[hfr y hy]) (fun y hy=>by rw[htk];simp[hy]);obtain⟨a1,a2,a3⟩:=zO6 (qK k) (rens b.fv ns tk) p hpn hpo;have hom:=zDY b.fv ns tk;simp only[List.nil_append] at r1;rw[<-r1];refine ih _ x b _ _ d σ a2 a1 hbo hbn (by omega) fun y hy=>?_;by_cases hyo:y∈outs b.fv ns tk
  ·have hyx:y≠x:=fun q=>by
    subst q;rcases hom y hyo with⟨q1,_⟩|q1
    ·exact hx2 q1
    ·exact q1 (by rw[htk];simp[hx1])
   rw[show x9 y x b=vr y by simp[x9,Ne.symm hyx]];exact .inl ⟨by simp[hyo],y,rfl,by simp[hyo],zSM (by simpa using hyo)⟩
  ·have hr:y∉(outs b.fv ns tk).reverse:=by simpa using hyo
   obtain⟨hyp,hyf⟩:y∈p.fv/\(y∈ns->y∉b.fv):=(r2 y hy).resolve_left hyo;have hyn:y∉ns:=fun q=>hyo (zNK _ _ _ _ q (hyf q));have hno:∀w∈(x9 y x b).fv,w∉outs b.fv ns tk:=fun w hw hwo=>by
    unfold x9 at hw;split at hw
    ·rcases hom w hwo with⟨_,q⟩|q
     ·exact q hw
     ·exact q (by rw[htk];simp[hw])
    ·rw[zLB] at hw;simp only[List.mem_singleton] at hw;subst hw;exact hyo hwo
   rcases h y hyp hyn with⟨q1,y',q2,q3,q4⟩|⟨q1,q2,q3,q4⟩
   ·have hy':y'∉(outs b.fv ns tk).reverse:=by
     have:=hno y' (by rw[q2,zLB];simp);simpa using this
    exact .inl ⟨by simp[q1],y',q2,by simp[q3],by rw[zFC hr,zFC hy',q4]⟩
   ·exact .inr ⟨by simp[hyo,q1],fun w hw=>by
     simp only[List.mem_append,List.mem_reverse,not_or];exact⟨hno w hw,q2 w hw⟩,q3,q4⟩
theorem zHE (n:Int) (s:ByteArray) (e d:List ByteArray):dbc (.node 1 n s .no .nil) e d=if memb s e then .bv (ixN e s) else .fr s:=by
 show (if (1:Int)=1 then _ else _)=_;rw[if_pos rfl]
theorem zT1 (k:Nat):z4P k:=by
 induction k with
 | zero=>intro c x b e e' d σ ho hn _ _ hk;cases c<;>first|(cases hn;done)|(simp only[Cr.sz] at hk;omega)
 | succ k ih =>
  intro c x b e e' d σ ho hn hbo hbn hk h;cases c with
  | node f n s t g =>
   obtain⟨hg,hgo⟩:=zY ho;have hkg:g.sz<=k:=by simp only[Cr.sz] at hk;omega
   simp only[sbF];by_cases h1:f=1
   ·obtain⟨ht,hgn⟩:=ho.2.1 h1;subst h1;subst ht;subst hgn;rw[if_pos rfl];have h:=h s (by rw[zDS];simp);by_cases hsx:s=x
    ·subst hsx;rw[if_pos rfl];rw[show x9 s s b=b by simp[x9]] at h;rw[zHE];rcases h with⟨q1,y',q2,q3,q4⟩|⟨q1,q2,q3,q4⟩
     ·rw[if_pos (yE q1),q2,z9Z,if_pos (yE q3),q4];rfl
     ·rw[if_neg (by rw[xH q1];simp)];have:=z0S b [] [] e' d hbo (fun w hw _=>q2 w hw) (fun w hw _=>q3 w hw);simp only[List.nil_append] at this;rw[this,<-q4];rfl
    ·rw[if_neg hsx];rw[show x9 s x b=vr s by simp[x9,Ne.symm hsx]] at h;rw[zHE,zHE];rcases h with⟨q1,y',q2,q3,q4⟩|⟨q1,q2,q3,q4⟩
     ·injection q2 with _ _ q2;subst q2
      rw[if_pos (yE q1),if_pos (yE q3),q4];rfl
     ·rw[if_neg (by rw[xH (q2 s (by rw[zLB];simp))];simp),if_neg (by rw[xH q1];simp)];rw[zIA] at q4;exact q4.symm
   rw[if_neg h1];by_cases h7:f=7
   ·subst h7;obtain⟨hty,p,rfl,hpn,hpo⟩:=zP8 ho;subst hty;rw[z0B] at hkg;rw[if_pos rfl,zS4];have hfv:∀y,y∈(Cr.node 7 n s .no (.kid p .nil)).fv↔y∈p.fv:=fun y=>by rw[wF (by decide),z8A];simp[Cr.names0,Cr.own,Cr.binds]
    have names:∀(p':Cr) (z:ByteArray) (e:List ByteArray),(Cr.node 7 n z .no (.kid p' .nil)).names0.reverse++e=e:=fun p' z e=>rfl;have hz2:∀(z:ByteArray),z∉b.tv->AgC p.fv x b e e' (z::d) σ:=fun z hz y hy=>by
     rcases h y ((hfv y).2 hy) with q|⟨q1,q2,q3,q4⟩
     ·exact .inl q
     ·refine .inr ⟨q1,q2,fun w hw=>?_,q4⟩;simp only[List.mem_cons,not_or];refine⟨?_,q3 w hw⟩;unfold x9 at hw;split at hw
      ·exact fun e=>hz (e ▸ hw)
      ·simp[zNR] at hw
    split
    ·split
     ·rename_i hsb;obtain⟨z,hz⟩:∃z,z=lett (ff (b.tv++p.tv)):=⟨_,rfl⟩
      have hnew:z∉b.tv++p.tv:=hz ▸ zDA _;simp only[List.mem_append,not_or] at hnew;rw[<-hz];obtain⟨q1,q2,q3⟩:=xA k p s (.var z) hpo;have qn:(stF k p s (.var z)).isN=true:=by rw[zAU];exact hpn
      simp only[zZ];rw[zAL,zAL];simp only[sbD];have e1:dbc (stF k p s (.var z)) e (z::d)=dbc p e (s::d):=by
       rw[z1Q k p s (.var z) e (s::d) (z::d) .fr hpo hpn hkg (AgT.renew hnew.2),zSR]
      rw[ih _ x b e e' (z::d) σ q3 qn hbo hbn (by rw[q1];exact hkg) (by rw[q2];exact hz2 z hnew.1),e1]
      rfl
     ·rename_i hsb;simp only[zZ];rw[zAL,zAL];simp only[sbD];rw[ih _ x b e e' (s::d) σ hpo hpn hbo hbn hkg (hz2 s hsb)]
      rfl
    ·rename_i hx;exact zV7 _ e e' d σ ho (h.stay fun y hy q=>hx (q ▸ hy))
   rw[if_neg h7];obtain⟨ns,hns⟩:∃ns,ns=(Cr.node f n s t g).names0:=⟨_,rfl⟩
   have hnd:ns.Nodup:=hns ▸ zGT ho;have hup:∀y,y∈g.fv->y∉ns->y∈(Cr.node f n s t g).fv:=fun y h1' h2=>(wF h1).2 ⟨h1',hns ▸ h2⟩;have alts:∀a∈g.alts,∀(m:List ByteArray),m=[]->∀r,r=wE (fun rs p=>sbF k (rs.foldl (fun p q=>sbF k p q.1 (vr q.2)) p) x b) x b.fv a.2.1 a.2.2 ->
     r.1.length=a.2.1.length/\dbc r.2 (r.1.reverse++(m.reverse++e')) d=sbD σ .fr (dbc a.2.2 (a.2.1.reverse++(ns.reverse++e)) d):=fun a ha m hm r hr=>by
    have hne:g.alts≠[]:=fun q=>by rw[q] at ha;cases ha
    have hn0:ns=[]:=hns ▸ zA6 ho hne;have hs:=zIP ha;have hl:g.isN=false:=hg;rw[hl] at hs;obtain⟨p1,p2⟩:=zP1 ih (ns:=a.2.1) (fr:=a.2.2.fv) (p:=a.2.2) (b:=b) (x:=x) (e:=e) (e':=e') (d:=d) (σ:=σ) (hgo.alt ha).2.2 (hgo.alt ha).1 (hgo.alt ha).2.1 hbo hbn (by simp at hs;omega) (fun _ h=>h) fun y hy hyn=>h y (hup y (fva hg hgo a ha y hy hyn) (by rw[hn0];simp));rw[hm,hn0];simp only[List.reverse_nil,List.nil_append];cases hp:plan a.2.2.fv a.2.1 x b.fv with
    | none=>simp only[wE,hp] at hr;subst hr;exact⟨rfl,p1 hp⟩
    | some rs=>simp only[wE,hp] at hr;subst hr;exact⟨by simp,p2 rs hp⟩
   have part:∀(p:Cr),p.isN=true->p.Ok->p.sz<=k->(∀y∈p.fv,y∈g.fv/\y∈g.parts0.flatMap Cr.fv)->_:=fun p q1 q2 q3 q4=>zP1 ih (ns:=ns) (fr:=g.parts0.flatMap Cr.fv) (p:=p) (b:=b) (x:=x) (e:=e) (e':=e') (d:=d) (σ:=σ) hnd q1 q2 hbo hbn q3 (fun y hy=>(q4 y hy).2) fun y hy hyn=>h y (hup y (q4 y hy).1 hyn);have pk:∀p∈g.kids,_:=fun p hp=>part p (hgo.kid hp).1 (hgo.kid hp).2 (by have:=zH9 hp;rw[hg] at this;simp at this;omega) fun y hy=>⟨fvk hg hgo p hp y hy,zMI hp y hy⟩
   have pb:∀b'∈g.binds,_:=fun b' hb=>part b'.2.2 (hgo.bind hb).1 (hgo.bind hb).2 (by have:=zET hb;rw[hg] at this;simp at this;omega) fun y hy=>⟨fvb hg hgo b' hb y hy,zKO hb y hy⟩
   rw[<-hns];cases hp:plan (g.parts0.flatMap Cr.fv) ns x b.fv with
   | none =>
    simp only[dbc];have hn1:∀(α:List ByteArray->Cr->List ByteArray×Cr),(Cr.node f n s t (zZ id id id α g)).names0=ns:=fun α=>by
     rw[hns];simp only[Cr.names0,Cr.own,Cr.binds,wJ hg hgo,List.map_map];rfl
    rw[if_neg h1,if_neg h1,if_neg h7,hn1,<-hns];simp only[sbD,zCX];rw[zJY (σ:=σ) (υ := .fr) (e:=ns.reverse++e) (d:=d) hg hgo]
    ·exact fun p hp'=>(pk p hp').1 hp
    ·exact fun b' hb=>⟨(pb b' hb).1 hp,(zCX _).symm⟩
    ·intro a ha;have hne:g.alts≠[]:=fun q=>by rw[q] at ha;cases ha
     have hn0:ns=[]:=hns ▸ zA6 ho hne;exact alts a ha ns hn0 _ rfl
   | some rs =>
    simp only[dbc];have hn1:∀(φ:Cr->Cr) (α:List ByteArray->Cr->List ByteArray×Cr),(Cr.node f n (if f=5 then nw rs s else s) t (zZ φ id (nw rs) α g)).names0=ns.map (nw rs):=fun φ α=>by rw[hns];exact zSN ho
    have hl:(if f=5∨f=7 then ByteArray.empty else (if f=5 then nw rs s else s))=(if f=5∨f=7 then ByteArray.empty else s):=by
     by_cases h5:f=5
     ·simp[h5]
     ·simp[h5]
    rw[if_neg h1,if_neg h1,if_neg h7,if_neg h7,hn1,<-hns,hl];simp only[sbD,zCX];rw[zJY (σ:=σ) (υ := .fr) (e:=ns.reverse++e) (d:=d) hg hgo]
    ·exact fun p hp'=>(pk p hp').2 rs hp
    ·exact fun b' hb=>⟨(pb b' hb).2 rs hp,(zCX _).symm⟩
    ·intro a ha;have hne:g.alts≠[]:=fun q=>by rw[q] at ha;cases ha
     have hn0:ns=[]:=hns ▸ zA6 ho hne;exact alts a ha (ns.map (nw rs)) (by rw[hn0];rfl) _ rfl
  | _=>cases hn
abbrev Bdg:=ByteArray×Tp×Cr
abbrev Alg:=(Int×Int×ByteArray)×List ByteArray×Cr
structure VA where
 A:Option Addr
 cap:Nat
 z:List AV
structure Ad where
 b0:Nat
 k:VA
 b:VA
 a:VA
 vs:List VA
structure Nd where
 f:Int
 n:Int
 s:ByteArray
 t:Tp
 ks:List Cr
 bs:List Bdg
 ls:List Alg
def lst (ks:List Cr) (bs:List Bdg) (ls:List Alg):Cr:=ks.foldr .kid (bs.foldr (fun b r => .bind b.1 b.2.1 b.2.2 r) (ls.foldr (fun a r => .alt a.1.1 a.1.2.1 a.1.2.2 a.2.1 a.2.2 r) .nil))
def Nd.cr (x:Nd):Cr := .node x.f x.n x.s x.t (lst x.ks x.bs x.ls)
def zD (c:Cr):Nd:=⟨c.f,c.n,c.s,c.t,c.kids,c.binds,c.alts⟩
theorem zAV (ks:List Cr) (bs:List Bdg) (ls:List Alg):(lst ks bs ls).kids=ks/\(lst ks bs ls).binds=bs/\(lst ks bs ls).alts=ls/\(lst ks bs ls).isN=false:=by
 induction ks with
 | cons p ks ih=>obtain⟨h1,h2,h3,_⟩:=ih;exact⟨congrArg (p :: ·) h1,h2,h3,rfl⟩
 | nil =>
  induction bs with
  | cons b bs ih=>obtain⟨h1,h2,h3,_⟩:=ih;exact⟨h1,congrArg (b :: ·) h2,h3,rfl⟩
  | nil =>
   induction ls with
   | cons a ls ih=>obtain⟨h1,h2,h3,_⟩:=ih;exact⟨h1,h2,congrArg (a :: ·) h3,rfl⟩
   | nil=>exact⟨rfl,rfl,rfl,rfl⟩
theorem z19 (g:Cr) (h:g.isN=false) (ho:g.Ok):lst g.kids g.binds g.alts=g:=by
 induction g with
 | nil=>rfl
 | node=>cases h
 | kid p r _ ih=>exact congrArg (Cr.kid p) (ih ho.2.1 ho.2.2.2)
 | bind x t p r _ ih =>
  have:=ih ho.2.1 ho.2.2.2.2;rw[ho.2.2.1] at this;show lst r.kids ((x,t,p)::r.binds) r.alts=_;rw[ho.2.2.1];exact congrArg (Cr.bind x t p) this
 | alt f n s vs p r _ ih =>
  have:=ih ho.2.1 ho.2.2.2.2.2.2;rw[ho.2.2.1,ho.2.2.2.1] at this;show lst r.kids r.binds (((f,n,s),vs,p)::r.alts)=_;rw[ho.2.2.1,ho.2.2.2.1];exact congrArg (Cr.alt f n s vs p) this
theorem zN4 {c:Cr} (h:c.isN=true) (ho:c.Ok):(zD c).cr=c:=by
 cases c with
 | node f n s t g=>show Cr.node f n s t (lst g.kids g.binds g.alts)=_;rw[z19 g ho.1 ho.2.2.2.2.2.2.2]
 | _=>cases h
theorem zZ8 (x:Nd):x.cr.e3 0=eCs x.ks/\x.cr.e3 1=yS x.bs/\x.cr.e3 2=xE x.ls:=by
 obtain⟨h1,h2,h3,_⟩:=zAV x.ks x.bs x.ls;exact⟨by rw[zXB];exact congrArg eCs h1,by rw[zMN];exact congrArg yS h2,by rw[zJD];exact congrArg xE h3⟩
abbrev slA (v:VA) (n:Nat):AV := .lit (.slice v.A n v.cap)
def blk (v:VA) (n:Nat) (l:List AV):List (Nat×HO):=match n,v.A with
 | _+1,some a=>[(a.block,HO.cells l)]
 | _,_=>[]
def VA.no (v:VA):Nat:=match v.A with|some a=>a.block|none=>0
structure VAok (v:VA) (n:Nat):Prop where
 n0:n=0->Sl0 v.A v.cap
 pos:0<n->∃b,v.A=some ⟨b,0,none⟩/\n<=v.cap
theorem zZD {v:VA} {l:List AV}:blk v 0 l=[]:=by unfold blk;split<;>simp_all
theorem zAC {v:VA} {n:Nat} {l:List AV} (h:VAok v n) (hn:0<n):blk v n l=[(v.no,HO.cells l)]:=by
 obtain⟨b,hb,_⟩:=h.pos hn;obtain⟨m,rfl⟩:∃m,n=m+1:=⟨n-1,by omega⟩
 simp[blk,VA.no,hb]
theorem VAok.at {v:VA} {n:Nat} (h:VAok v n) (hn:0<n):v.A=some ⟨v.no,0,none⟩:=by
 obtain⟨b,hb,_⟩:=h.pos hn;simp[VA.no,hb]
def yU (ad:Ad) (x:Nd):List AV:=[.lit (.int .i64 x.f),.lit (.int .i64 x.n),.lit (.string x.s),.lit (.int .i64 x.t.form),.lit (.int .i64 x.t.num),.lit (.string x.t.nam),.sl x.t.eArgs,slA ad.k x.ks.length,slA ad.b x.bs.length,slA ad.a x.ls.length]
def zRL (a:Alg) (v:VA):AV := .agg [.lit (.int .i64 a.1.1),.lit (.int .i64 a.1.2.1),.lit (.string a.1.2.2),slA v a.2.1.length,.lit (.int .i64 a.2.2.f),.lit (.int .i64 a.2.2.n),.lit (.string a.2.2.s),.lit (.int .i64 a.2.2.t.form),.lit (.int .i64 a.2.2.t.num),.lit (.string a.2.2.t.nam),.sl a.2.2.t.eArgs,.sl (a.2.2.e3 0),.sl (a.2.2.e3 1),.sl (a.2.2.e3 2)]
def xU (ls:List Alg) (vs:List VA):List AV:=List.zipWith zRL ls vs
def hV (ls:List Alg) (vs:List VA):List (Nat×HO):=(List.zipWith (fun (a:Alg) (v:VA)=>blk v a.2.1.length (flR (eSs a.2.1) v.z)) ls vs).flatten
def hM (ad:Ad) (x:Nd):List (Nat×HO):=blk ad.k x.ks.length (flR (eCs x.ks) ad.k.z)++(blk ad.b x.bs.length (flR (yS x.bs) ad.b.z)++(blk ad.a x.ls.length (flR (xU x.ls ad.vs) ad.a.z)++hV x.ls ad.vs))
def HP (ad:Ad) (x:Nd):List (Nat×HO):=hM ad x++[(ad.b0,HO.cells (yU ad x))]
structure AdOk (ad:Ad) (x:Nd):Prop where
 k:VAok ad.k x.ks.length
 b:VAok ad.b x.bs.length
 a:VAok ad.a x.ls.length
 len:ad.vs.length=x.ls.length
 vs:∀(i:Nat) (a:Alg) (v:VA),x.ls[i]? = some a->ad.vs[i]? = some v->VAok v a.2.1.length
theorem zV9 (l:List Cr):Uni 10 (eCs l):=fun a ha=>by obtain⟨x,_,rfl⟩:=List.mem_map.1 ha;rfl
theorem zAO (l:List Bdg):Uni 15 (yS l):=fun a ha=>by obtain⟨x,_,rfl⟩:=List.mem_map.1 ha;rfl
theorem zGZ (l:List Alg):Uni 14 (xE l):=fun a ha=>by obtain⟨x,_,rfl⟩:=List.mem_map.1 ha;rfl
theorem zHU (ls:List Alg) (vs:List VA):Uni 14 (xU ls vs):=by
 induction ls generalizing vs with
 | nil=>intro a ha;simp[xU] at ha
 | cons a ls ih =>
  cases vs with
  | nil=>intro a ha;simp[xU] at ha
  | cons v vs =>
   intro x hx;simp only[xU,List.zipWith_cons_cons,List.mem_cons] at hx;rcases hx with rfl|hx
   ·rfl
   ·exact ih vs x hx
theorem z98 {l:List Cr} {k:Nat} (h:k<l.length):(eCs l)[k]? = some (eC l[k]):=by simp[eCs,h]
theorem zP2 {l:List Bdg} {k:Nat} (h:k<l.length):(yS l)[k]? = some (eBd l[k]):=by simp[yS,h]
theorem z5E {l:List Alg} {k:Nat} (h:k<l.length):(xE l)[k]? = some (eAl l[k]):=by simp[xE,h]
end Go.Proofs.YtgonkhaebmfgiaaGreatDoor
