/- Core as a tree of one sort, and how it lies in memory; what is free in it, how many nodes there are. Plain. No condition. -/
import Derived.Test.YtgonkhaebmfgiaaGreatDoorC
import Derived.Test.YtgonkhaebmfgiaaGreatDoorFpM
set_option linter.unusedSimpArgs false
set_option linter.unusedVariables false
namespace Go.Proofs.YtgonkhaebmfgiaaGreatDoor
open Go Fp
set_option maxRecDepth 10000
set_option maxHeartbeats 1000000
set_option linter.unusedVariables false
set_option linter.unusedSimpArgs false
abbrev fvT (t:Tp):List ByteArray:=fv t
inductive Cr where
 | nil
 | node (f n:Int) (s:ByteArray) (t:Tp) (g:Cr)
 | kid (p r:Cr)
 | bind (x:ByteArray) (t:Tp) (p r:Cr)
 | alt (f n:Int) (s:ByteArray) (vs:List ByteArray) (p r:Cr)
 deriving DecidableEq
namespace Cr
def f:Cr->Int|node f _ _ _ _=>f|_=>0
def n:Cr->Int|node _ n _ _ _=>n|_=>0
def s:Cr->ByteArray|node _ _ s _ _=>s|_ => .empty
def t:Cr->Tp|node _ _ _ t _=>t|_ => .no
def isN:Cr->Bool|node _ _ _ _ _=>true|_=>false
def e3:Cr->Nat->List AV
 | nil,_=>[]
 | node _ _ _ _ g,i=>e3 g i
 | kid p r,i=>match i with
  | 0 => .agg [.lit (.int .i64 p.f),.lit (.int .i64 p.n),.lit (.string p.s),.lit (.int .i64 p.t.form),.lit (.int .i64 p.t.num),.lit (.string p.t.nam),.sl p.t.eArgs,.sl (e3 p 0),.sl (e3 p 1),.sl (e3 p 2)]::e3 r 0
  | i+1=>e3 r (i+1)
 | bind x t p r,i=>match i with
  | 1 => .agg [.lit (.string x),.lit (.int .i64 t.form),.lit (.int .i64 t.num),.lit (.string t.nam),.sl t.eArgs,.lit (.int .i64 p.f),.lit (.int .i64 p.n),.lit (.string p.s),.lit (.int .i64 p.t.form),.lit (.int .i64 p.t.num),.lit (.string p.t.nam),.sl p.t.eArgs,.sl (e3 p 0),.sl (e3 p 1),.sl (e3 p 2)]::e3 r 1
  | 0=>e3 r 0
  | i+2=>e3 r (i+2)
 | alt f n s vs p r,i=>match i with
  | 2 => .agg [.lit (.int .i64 f),.lit (.int .i64 n),.lit (.string s),.sl (eSs vs),.lit (.int .i64 p.f),.lit (.int .i64 p.n),.lit (.string p.s),.lit (.int .i64 p.t.form),.lit (.int .i64 p.t.num),.lit (.string p.t.nam),.sl p.t.eArgs,.sl (e3 p 0),.sl (e3 p 1),.sl (e3 p 2)]::e3 r 2
  | 0=>e3 r 0
  | 1=>e3 r 1
  | i+3=>e3 r (i+3)
def kids:Cr->List Cr
 | nil=>[]
 | node _ _ _ _ g=>kids g
 | kid p r=>p::kids r
 | bind _ _ _ r=>kids r
 | alt _ _ _ _ _ r=>kids r
def binds:Cr->List (ByteArray×Tp×Cr)
 | nil=>[]
 | node _ _ _ _ g=>binds g
 | kid _ r=>binds r
 | bind x t p r=>(x,t,p)::binds r
 | alt _ _ _ _ _ r=>binds r
def alts:Cr->List ((Int×Int×ByteArray)×List ByteArray×Cr)
 | nil=>[]
 | node _ _ _ _ g=>alts g
 | kid _ r=>alts r
 | bind _ _ _ r=>alts r
 | alt f n s vs p r=>((f,n,s),vs,p)::alts r
def sz:Cr->Nat
 | nil=>0
 | node _ _ _ _ g=>1+sz g
 | kid p r=>sz p+sz r
 | bind _ _ p r=>sz p+sz r
 | alt _ _ _ _ p r=>sz p+sz r
end Cr
def eC (c:Cr):AV := .agg [.lit (.int .i64 c.f),.lit (.int .i64 c.n),.lit (.string c.s),.lit (.int .i64 c.t.form),.lit (.int .i64 c.t.num),.lit (.string c.t.nam),.sl c.t.eArgs,.sl (c.e3 0),.sl (c.e3 1),.sl (c.e3 2)]
def eBd (b:ByteArray×Tp×Cr):AV := .agg [.lit (.string b.1),.lit (.int .i64 b.2.1.form),.lit (.int .i64 b.2.1.num),.lit (.string b.2.1.nam),.sl b.2.1.eArgs,.lit (.int .i64 b.2.2.f),.lit (.int .i64 b.2.2.n),.lit (.string b.2.2.s),.lit (.int .i64 b.2.2.t.form),.lit (.int .i64 b.2.2.t.num),.lit (.string b.2.2.t.nam),.sl b.2.2.t.eArgs,.sl (b.2.2.e3 0),.sl (b.2.2.e3 1),.sl (b.2.2.e3 2)]
def eAl (a:(Int×Int×ByteArray)×List ByteArray×Cr):AV := .agg [.lit (.int .i64 a.1.1),.lit (.int .i64 a.1.2.1),.lit (.string a.1.2.2),.sl (eSs a.2.1),.lit (.int .i64 a.2.2.f),.lit (.int .i64 a.2.2.n),.lit (.string a.2.2.s),.lit (.int .i64 a.2.2.t.form),.lit (.int .i64 a.2.2.t.num),.lit (.string a.2.2.t.nam),.sl a.2.2.t.eArgs,.sl (a.2.2.e3 0),.sl (a.2.2.e3 1),.sl (a.2.2.e3 2)]
def eCs (l:List Cr):List AV:=l.map eC
def yM (l:List (ByteArray×Tp×Cr)):List AV:=l.map eBd
def xO (l:List ((Int×Int×ByteArray)×List ByteArray×Cr)):List AV:=l.map eAl
theorem zU2 (c:Cr):c.e3 0=eCs c.kids:=by
 induction c with
 | nil=>rfl
 | node f n s t g ih=>exact ih
 | kid p r _ ih=>show eC p::_=_;rw[ih];rfl
 | bind x t p r _ ih=>exact ih
 | alt f n s vs p r _ ih=>exact ih
theorem zZX (c:Cr):c.e3 1=yM c.binds:=by
 induction c with
 | nil=>rfl
 | node f n s t g ih=>exact ih
 | kid p r _ ih=>exact ih
 | bind x t p r _ ih=>show eBd (x,t,p)::_=_;rw[ih];rfl
 | alt f n s vs p r _ ih=>exact ih
theorem z0M (c:Cr):c.e3 2=xO c.alts:=by
 induction c with
 | nil=>rfl
 | node f n s t g ih=>exact ih
 | kid p r _ ih=>exact ih
 | bind x t p r _ ih=>exact ih
 | alt f n s vs p r _ ih=>show eAl ((f,n,s),vs,p)::_=_;rw[ih];rfl
namespace Cr
def parts0 (c:Cr):List Cr:=c.kids++c.binds.map (·.2.2)
def own:Cr->List ByteArray
 | node f _ s _ _=>if f=5 then [s] else []
 | _=>[]
def names0 (c:Cr):List ByteArray:=c.own++c.binds.map (·.1)
def fv:Cr->List ByteArray
 | nil=>[]
 | node f n s t g=>if f=1 then [s] else zC (fun y=>memb y (names0 (node f n s t g))) [] (fv g)
 | kid p r=>zC no (fv p) (fv r)
 | bind _ _ p r=>zC no (fv p) (fv r)
 | alt _ _ _ vs p r=>zC no (zC (fun y=>memb y vs) [] (fv p)) (fv r)
def tv:Cr->List ByteArray
 | nil=>[]
 | node f _ s t g=>zC (fun y=>decide (f=7) && decide (y=s)) (fvT t) (tv g)
 | kid p r=>zC no (tv p) (tv r)
 | bind _ t p r=>zC no (zC no (fvT t) (tv p)) (tv r)
 | alt _ _ _ _ p r=>zC no (tv p) (tv r)
def nk (f:Int):Nat:=if f=4∨f=10 then 2 else if f=5∨f=6∨f=7∨f=8∨f=9 then 1 else 0
def Ok:Cr->Prop
 | nil=>True
 | node f n s t g=>g.isN=false/\(f=1->t = .no/\g=nil)/\(f=7->t = .no)/\g.kids.length=nk f/\(g.binds≠[]->f=8)/\(g.alts≠[]->f=9)/\(g.binds.map (·.1)).Nodup/\Ok g
 | kid p r=>p.isN=true/\r.isN=false/\Ok p/\Ok r
 | bind x t p r=>p.isN=true/\r.isN=false/\r.kids=[]/\Ok p/\Ok r
 | alt f n s vs p r=>p.isN=true/\r.isN=false/\r.kids=[]/\r.binds=[]/\vs.Nodup/\Ok p/\Ok r
end Cr
theorem zNN {c p:Cr} (h:p∈c.kids):p.sz+(if c.isN then 1 else 0)<=c.sz:=by
 induction c with
 | nil=>simp[Cr.kids] at h
 | node f n s t g ih=>have:=ih h;simp only[Cr.sz,Cr.isN] at *;split at this<;>simp<;>omega
 | kid q r _ ih =>
  simp only[Cr.kids,List.mem_cons] at h;simp only[Cr.sz,Cr.isN];rcases h with rfl|h
  ·simp
  ·have:=ih h;simp;omega
 | bind x t q r _ ih=>have:=ih h;simp only[Cr.sz,Cr.isN];simp;omega
 | alt f n s vs q r _ ih=>have:=ih h;simp only[Cr.sz,Cr.isN];simp;omega
theorem zH6 {c:Cr} {b:ByteArray×Tp×Cr} (h:b∈c.binds):b.2.2.sz+(if c.isN then 1 else 0)<=c.sz:=by
 induction c with
 | nil=>simp[Cr.binds] at h
 | node f n s t g ih=>have:=ih h;simp only[Cr.sz,Cr.isN] at *;split at this<;>simp<;>omega
 | kid q r _ ih=>have:=ih h;simp only[Cr.sz,Cr.isN];simp;omega
 | bind x t q r _ ih =>
  simp only[Cr.binds,List.mem_cons] at h;simp only[Cr.sz,Cr.isN];rcases h with rfl|h
  ·simp
  ·have:=ih h;simp;omega
 | alt f n s vs q r _ ih=>have:=ih h;simp only[Cr.sz,Cr.isN];simp;omega
theorem zMV {c:Cr} {b:(Int×Int×ByteArray)×List ByteArray×Cr} (h:b∈c.alts):b.2.2.sz+(if c.isN then 1 else 0)<=c.sz:=by
 induction c with
 | nil=>simp[Cr.alts] at h
 | node f n s t g ih=>have:=ih h;simp only[Cr.sz,Cr.isN] at *;split at this<;>simp<;>omega
 | kid q r _ ih=>have:=ih h;simp only[Cr.sz,Cr.isN];simp;omega
 | bind x t q r _ ih=>have:=ih h;simp only[Cr.sz,Cr.isN];simp;omega
 | alt f n s vs q r _ ih =>
  simp only[Cr.alts,List.mem_cons] at h;simp only[Cr.sz,Cr.isN];rcases h with rfl|h
  ·simp
  ·have:=ih h;simp;omega
theorem z3M (n:Int) (s:ByteArray) (t:Tp) (g:Cr):(Cr.node 1 n s t g).fv=[s]:=by simp[Cr.fv]
inductive DC where
 | nil
 | bv (i:Nat)
 | fr (s:ByteArray)
 | node (f n:Int) (s:ByteArray) (t:Db) (g:DC)
 | kid (p r:DC)
 | bind (t:Db) (p r:DC)
 | alt (f n:Int) (s:ByteArray) (k:Nat) (p r:DC)
instance memDec (s:ByteArray) (l:List ByteArray):Decidable (s∈l):=decidable_of_iff (memb s l=true) memb_iff
def yQ (φ:Cr->Cr) (τ:Tp->Tp) (ν:ByteArray->ByteArray) (α:List ByteArray->Cr->List ByteArray×Cr):Cr->Cr
 | .kid p r => .kid (φ p) (yQ φ τ ν α r)
 | .bind x t p r => .bind (ν x) (τ t) (φ p) (yQ φ τ ν α r)
 | .alt f n s vs p r => .alt f n s (α vs p).1 (α vs p).2 (yQ φ τ ν α r)
 | c=>c
noncomputable def stF:Nat->Cr->ByteArray->Tp->Cr
 | k+1,.node f n s ty g,v,t =>
  if f=7 then
   if s=v∨v∉g.tv then .node f n s ty g
   else if s∈fvT t then .node f n (lett (ff (fvT t++g.tv))) ty (yQ (fun p=>stF k (stF k p s (.var (lett (ff (fvT t++g.tv))))) v t) id id Prod.mk g)
   else .node f n s ty (yQ (fun p=>stF k p v t) id id Prod.mk g)
  else .node f n s (sub ty [(v,t)]) (yQ (fun p=>stF k p v t) (fun u=>sub u [(v,t)]) id (fun vs p=>(vs,stF k p v t)) g)
 | _,c,_,_=>c
noncomputable def rens (far:List ByteArray):List ByteArray->List ByteArray->List (ByteArray×ByteArray)
 | [],_=>[]
 | n::ns,tk=>if n∈far then (n,lett (ff tk))::rens far ns (tk++[lett (ff tk)]) else rens far ns tk
def nw:List (ByteArray×ByteArray)->ByteArray->ByteArray
 | [],n=>n
 | (a,z)::r,n=>if a=n then z else nw r n
noncomputable def plan (fr ns:List ByteArray) (x:ByteArray) (far:List ByteArray):Option (List (ByteArray×ByteArray)) :=
 if x∈fr/\x∉ns then some (rens far ns (fr++ns++far)) else none
abbrev vr (s:ByteArray):Cr := .node 1 0 s .no .nil
noncomputable def zBO (φ:List (ByteArray×ByteArray)->Cr->Cr) (x:ByteArray) (far vs:List ByteArray) (p:Cr):List ByteArray×Cr:=match plan p.fv vs x far with
 | none=>(vs,p)
 | some rs=>(vs.map (nw rs),φ rs p)
noncomputable def sbF:Nat->Cr->ByteArray->Cr->Cr
 | k+1,.node f n s t g,x,b =>
  if f=1 then (if s=x then b else .node f n s t g)
  else if f=7 then
   if x∈(Cr.node f n s t g).fv then
    if s∈b.tv then .node f n (lett (ff (b.tv++g.tv))) t (yQ (fun p=>sbF k (stF k p s (.var (lett (ff (b.tv++g.tv))))) x b) id id Prod.mk g)
    else .node f n s t (yQ (fun p=>sbF k p x b) id id Prod.mk g)
   else .node f n s t g
  else match plan (g.parts0.flatMap Cr.fv) (Cr.node f n s t g).names0 x b.fv with
   | none => .node f n s t (yQ id id id (zBO (fun rs p=>sbF k (rs.foldl (fun p q=>sbF k p q.1 (vr q.2)) p) x b) x b.fv) g)
   | some rs => .node f n (if f=5 then nw rs s else s) t (yQ (fun p=>sbF k (rs.foldl (fun p q=>sbF k p q.1 (vr q.2)) p) x b) id (nw rs) (zBO (fun rs p=>sbF k (rs.foldl (fun p q=>sbF k p q.1 (vr q.2)) p) x b) x b.fv) g)
 | _,c,_,_=>c
section
variable {φ:Cr->Cr} {τ:Tp->Tp} {ν:ByteArray->ByteArray} {α:List ByteArray->Cr->List ByteArray×Cr}
theorem zF7 (g:Cr):(yQ φ τ ν α g).isN=g.isN:=by cases g<;>rfl
theorem zBM {g:Cr} (h:g.isN=false) (ho:g.Ok):(yQ φ τ ν α g).kids=g.kids.map φ:=by
 induction g with
 | nil=>rfl
 | node=>cases h
 | kid p r _ ih=>simp only[yQ,Cr.kids,List.map_cons,ih ho.2.1 ho.2.2.2]
 | bind x t p r _ ih=>simp only[yQ,Cr.kids,ih ho.2.1 ho.2.2.2.2]
 | alt f n s vs p r _ ih=>simp only[yQ,Cr.kids,ih ho.2.1 ho.2.2.2.2.2.2]
theorem jG {g:Cr} (h:g.isN=false) (ho:g.Ok):(yQ φ τ ν α g).binds=g.binds.map fun b=>(ν b.1,τ b.2.1,φ b.2.2):=by
 induction g with
 | nil=>rfl
 | node=>cases h
 | kid p r _ ih=>simp only[yQ,Cr.binds,ih ho.2.1 ho.2.2.2]
 | bind x t p r _ ih=>simp only[yQ,Cr.binds,List.map_cons,ih ho.2.1 ho.2.2.2.2]
 | alt f n s vs p r _ ih=>simp only[yQ,Cr.binds,ih ho.2.1 ho.2.2.2.2.2.2]
theorem zGH {g:Cr} (h:g.isN=false) (ho:g.Ok):(yQ φ τ ν α g).alts=g.alts.map fun a=>(a.1,α a.2.1 a.2.2):=by
 induction g with
 | nil=>rfl
 | node=>cases h
 | kid p r _ ih=>simp only[yQ,Cr.alts,ih ho.2.1 ho.2.2.2]
 | bind x t p r _ ih=>simp only[yQ,Cr.alts,ih ho.2.1 ho.2.2.2.2]
 | alt f n s vs p r _ ih=>simp only[yQ,Cr.alts,List.map_cons,ih ho.2.1 ho.2.2.2.2.2.2]
end
theorem Cr.Ok.kid {c p:Cr} (h:c.Ok) (hp:p∈c.kids):p.isN=true/\p.Ok:=by
 induction c with
 | nil=>cases hp
 | node f n s t g ih=>exact ih h.2.2.2.2.2.2.2 hp
 | kid q r _ ih =>
  simp only[Cr.kids,List.mem_cons] at hp;rcases hp with rfl|hp
  ·exact⟨h.1,h.2.2.1⟩
  ·exact ih h.2.2.2 hp
 | bind x t q r _ ih=>exact ih h.2.2.2.2 hp
 | alt f n s vs q r _ ih=>exact ih h.2.2.2.2.2.2 hp
theorem Cr.Ok.bind {c:Cr} {b:ByteArray×Tp×Cr} (h:c.Ok) (hp:b∈c.binds):b.2.2.isN=true/\b.2.2.Ok:=by
 induction c with
 | nil=>cases hp
 | node f n s t g ih=>exact ih h.2.2.2.2.2.2.2 hp
 | kid q r _ ih=>exact ih h.2.2.2 hp
 | bind x t q r _ ih =>
  simp only[Cr.binds,List.mem_cons] at hp;rcases hp with rfl|hp
  ·exact⟨h.1,h.2.2.2.1⟩
  ·exact ih h.2.2.2.2 hp
 | alt f n s vs q r _ ih=>exact ih h.2.2.2.2.2.2 hp
theorem Cr.Ok.alt {c:Cr} {a:(Int×Int×ByteArray)×List ByteArray×Cr} (h:c.Ok) (hp:a∈c.alts):a.2.2.isN=true/\a.2.2.Ok/\a.2.1.Nodup:=by
 induction c with
 | nil=>cases hp
 | node f n s t g ih=>exact ih h.2.2.2.2.2.2.2 hp
 | kid q r _ ih=>exact ih h.2.2.2 hp
 | bind x t q r _ ih=>exact ih h.2.2.2.2 hp
 | alt f n s vs q r _ ih =>
  simp only[Cr.alts,List.mem_cons] at hp;rcases hp with rfl|hp
  ·exact⟨h.1,h.2.2.2.2.2.1,h.2.2.2.2.1⟩
  ·exact ih h.2.2.2.2.2.2 hp
theorem xQ {f n:Int} {s:ByteArray} {t:Tp} {g:Cr} (h:(Cr.node f n s t g).Ok):g.isN=false/\g.Ok:=⟨h.1,h.2.2.2.2.2.2.2⟩
theorem z07 (t:Tp):sub t []=t:=by
 induction t with
 | all s a ih=>simp[sub,kept,caught,memb,ih]
 | app a b iha ihb=>simp only[sub,iha,ihb]
 | var s=>simp[sub,look]
 | _=>rfl
theorem zTC (k:Nat) (c:Cr) (v:ByteArray) (t:Tp):(stF k c v t).isN=c.isN:=by
 cases k with
 | zero=>cases c<;>rfl
 | succ k=>cases c<;>simp only[stF]<;>first|rfl|(split<;>(try split)<;>(try split)<;>rfl)
section
variable {φ:Cr->Cr} {τ:Tp->Tp} {ν:ByteArray->ByteArray} {α:List ByteArray->Cr->List ByteArray×Cr}
theorem zSN {g:Cr} (h:g.isN=false) (ho:g.Ok) (hk:∀p∈g.kids,(φ p).sz=p.sz) (hb:∀b∈g.binds,(φ b.2.2).sz=b.2.2.sz) (ha:∀a∈g.alts,(α a.2.1 a.2.2).2.sz=a.2.2.sz):(yQ φ τ ν α g).sz=g.sz:=by
 induction g with
 | nil=>rfl
 | node=>cases h
 | kid p r _ ih =>
  simp only[yQ,Cr.sz,Cr.kids,List.mem_cons,forall_eq_or_imp] at hk⊢;rw[hk.1,ih ho.2.1 ho.2.2.2 hk.2 hb ha]
 | bind x t p r _ ih =>
  simp only[yQ,Cr.sz,Cr.binds,List.mem_cons,forall_eq_or_imp] at hb⊢;rw[hb.1,ih ho.2.1 ho.2.2.2.2 hk hb.2 ha]
 | alt f n s vs p r _ ih =>
  simp only[yQ,Cr.sz,Cr.alts,List.mem_cons,forall_eq_or_imp] at ha⊢;rw[ha.1,ih ho.2.1 ho.2.2.2.2.2.2 hk hb ha.2]
theorem z0K {g:Cr} (h:g.isN=false) (ho:g.Ok) (hk:∀p∈g.kids,(φ p).fv=p.fv) (hb:∀b∈g.binds,(φ b.2.2).fv=b.2.2.fv) (ha:∀a∈g.alts,(α a.2.1 a.2.2).2.fv=a.2.2.fv/\(α a.2.1 a.2.2).1=a.2.1):(yQ φ τ ν α g).fv=g.fv:=by
 induction g with
 | nil=>rfl
 | node=>cases h
 | kid p r _ ih =>
  simp only[yQ,Cr.fv,Cr.kids,List.mem_cons,forall_eq_or_imp] at hk⊢;rw[hk.1,ih ho.2.1 ho.2.2.2 hk.2 hb ha]
 | bind x t p r _ ih =>
  simp only[yQ,Cr.fv,Cr.binds,List.mem_cons,forall_eq_or_imp] at hb⊢;rw[hb.1,ih ho.2.1 ho.2.2.2.2 hk hb.2 ha]
 | alt f n s vs p r _ ih =>
  simp only[yQ,Cr.fv,Cr.alts,List.mem_cons,forall_eq_or_imp] at ha⊢;rw[ha.1.1,ha.1.2,ih ho.2.1 ho.2.2.2.2.2.2 hk hb ha.2]
theorem zS8 {g:Cr} (h:g.isN=false) (ho:g.Ok) (hk:∀p∈g.kids,(φ p).Ok/\(φ p).isN=true) (hb:∀b∈g.binds,(φ b.2.2).Ok/\(φ b.2.2).isN=true) (ha:∀a∈g.alts,(α a.2.1 a.2.2).2.Ok/\(α a.2.1 a.2.2).2.isN=true/\(α a.2.1 a.2.2).1.Nodup):(yQ φ τ ν α g).Ok:=by
 induction g with
 | nil=>trivial
 | node=>cases h
 | kid p r _ ih =>
  simp only[yQ,Cr.kids,List.mem_cons,forall_eq_or_imp] at hk⊢;exact⟨hk.1.2,by rw[zF7];exact ho.2.1,hk.1.1,ih ho.2.1 ho.2.2.2 hk.2 hb ha⟩
 | bind x t p r _ ih =>
  simp only[yQ,Cr.binds,List.mem_cons,forall_eq_or_imp] at hb⊢;exact⟨hb.1.2,by rw[zF7];exact ho.2.1,by rw[zBM ho.2.1 ho.2.2.2.2,ho.2.2.1];rfl,hb.1.1,ih ho.2.1 ho.2.2.2.2 hk hb.2 ha⟩
 | alt f n s vs p r _ ih =>
  simp only[yQ,Cr.alts,List.mem_cons,forall_eq_or_imp] at ha⊢;exact⟨ha.1.2.1,by rw[zF7];exact ho.2.1,by rw[zBM ho.2.1 ho.2.2.2.2.2.2,ho.2.2.1];rfl,by rw[jG ho.2.1 ho.2.2.2.2.2.2,ho.2.2.2.1];rfl,ha.1.2.2,ha.1.1,ih ho.2.1 ho.2.2.2.2.2.2 hk hb ha.2⟩
theorem zSU {f n:Int} {s s':ByteArray} {t t':Tp} {g:Cr} (ho:(Cr.node f n s t g).Ok) (ht:t = .no->t' = .no) (hm:(yQ φ τ ν α g).Ok) (hn:((g.binds.map (·.1)).map ν).Nodup):(Cr.node f n s' t' (yQ φ τ ν α g)).Ok:=by
 obtain⟨h1,h2,h3,h4,h5,h6,h7,h8⟩:=ho;refine⟨by rw[zF7];exact h1,fun hf=>⟨ht (h2 hf).1,by rw[(h2 hf).2];rfl⟩,fun hf=>ht (h3 hf),by rw[zBM h1 h8,List.length_map];exact h4,fun hb=>h5 fun q=>hb ?_,fun hb=>h6 fun q=>hb ?_,?_,hm⟩
 ·rw[jG h1 h8,q];rfl
 ·rw[zGH h1 h8,q];rfl
 ·rw[jG h1 h8,List.map_map];rw[List.map_map] at hn;exact hn
end
theorem zEE (k:Nat):∀(c:Cr) (v:ByteArray) (t:Tp),c.Ok->(stF k c v t).sz=c.sz/\(stF k c v t).fv=c.fv/\(stF k c v t).Ok:=by
 induction k with
 | zero=>intro c v t ho;cases c<;>exact⟨rfl,rfl,ho⟩
 | succ k ih =>
  intro c v t ho;cases c with
  | node f n s ty g =>
   obtain⟨hg,hgo⟩:=xQ ho;simp only[stF];have gen:∀(φ:Cr->Cr) (τ:Tp->Tp) (α:List ByteArray->Cr->List ByteArray×Cr) (s':ByteArray) (ty':Tp),(ty = .no->ty' = .no)->(f=5->s'=s)->(f=1->s'=s)->(∀p,p.isN=true->p.Ok->(φ p).sz=p.sz/\(φ p).fv=p.fv/\(φ p).Ok/\(φ p).isN=true)->(∀vs p,p.isN=true->p.Ok->(α vs p).1=vs/\(α vs p).2.sz=p.sz/\(α vs p).2.fv=p.fv/\(α vs p).2.Ok/\(α vs p).2.isN=true) ->
     (Cr.node f n s' ty' (yQ φ τ id α g)).sz=(Cr.node f n s ty g).sz/\(Cr.node f n s' ty' (yQ φ τ id α g)).fv=(Cr.node f n s ty g).fv/\(Cr.node f n s' ty' (yQ φ τ id α g)).Ok:=fun φ τ α s' ty' hty h5 h1 hφ hα=>by
    have hk:∀p∈g.kids,_:=fun p hp=>hφ p (hgo.kid hp).1 (hgo.kid hp).2;have hb:∀b∈g.binds,_:=fun b hb=>hφ b.2.2 (hgo.bind hb).1 (hgo.bind hb).2;have ha:∀a∈g.alts,_:=fun a ha=>hα a.2.1 a.2.2 (hgo.alt ha).1 (hgo.alt ha).2.1;refine⟨?_,?_,?_⟩
    ·simp only[Cr.sz];rw[zSN hg hgo (fun p hp=>(hk p hp).1) (fun b hp=>(hb b hp).1) (fun a hp=>(ha a hp).2.1)]
    ·have e1:(Cr.node f n s' ty' (yQ φ τ id α g)).names0=(Cr.node f n s ty g).names0:=by
      simp only[Cr.names0,Cr.own,Cr.binds];rw[jG hg hgo,List.map_map];by_cases hf:f=5
      ·rw[if_pos hf,if_pos hf,h5 hf];rfl
      ·rw[if_neg hf,if_neg hf];rfl
     simp only[Cr.fv,e1];rw[z0K hg hgo (fun p hp=>(hk p hp).2.1) (fun b hp=>(hb b hp).2.1) (fun a hp=>⟨(ha a hp).2.2.1,(ha a hp).1⟩)];by_cases hf:f=1
     ·rw[if_pos hf,if_pos hf,h1 hf]
     ·rw[if_neg hf,if_neg hf]
    ·refine zSU ho hty (zS8 hg hgo (fun p hp=>(hk p hp).2.2) (fun b hp=>(hb b hp).2.2) (fun a hp=>⟨(ha a hp).2.2.2.1,(ha a hp).2.2.2.2,by rw[(ha a hp).1];exact (hgo.alt hp).2.2⟩)) (by rw[List.map_id];exact ho.2.2.2.2.2.2.1)
   have one:∀v t p,p.isN=true->p.Ok->(stF k p v t).sz=p.sz/\(stF k p v t).fv=p.fv/\(stF k p v t).Ok/\(stF k p v t).isN=true:=fun v t p hn hp=>⟨(ih p v t hp).1,(ih p v t hp).2.1,(ih p v t hp).2.2,by rw[zTC];exact hn⟩
   by_cases h7:f=7
   ·rw[if_pos h7];split
    ·exact⟨rfl,rfl,ho⟩
    split
    ·refine gen _ _ _ _ _ id (fun h=>by omega) (fun h=>by omega) (fun p hn hp=>?_) (fun vs p hn hp=>⟨rfl,rfl,rfl,hp,hn⟩);obtain⟨q1,q2,q3,q4⟩:=one s (.var (lett (ff (fvT t++g.tv)))) p hn hp;obtain⟨r1,r2,r3,r4⟩:=one v t _ q4 q3;exact⟨r1.trans q1,r2.trans q2,r3,r4⟩
    ·exact gen _ _ _ _ _ id (fun h=>rfl) (fun h=>rfl) (fun p hn hp=>one v t p hn hp) (fun vs p hn hp=>⟨rfl,rfl,rfl,hp,hn⟩)
   ·rw[if_neg h7];exact gen _ _ _ _ _ (fun h=>by rw[h];rfl) (fun h=>rfl) (fun h=>rfl) (fun p hn hp=>one v t p hn hp) (fun vs p hn hp=>⟨rfl,one v t p hn hp⟩)
  | _=>exact⟨rfl,rfl,ho⟩
set_option maxHeartbeats 2000000
noncomputable def st (c:Cr) (v:ByteArray) (t:Tp):Cr:=stF c.sz c v t
noncomputable def outs (far:List ByteArray):List ByteArray->List ByteArray->List ByteArray
 | [],_=>[]
 | n::ns,tk=>if n∈far then lett (ff tk)::outs far ns (tk++[lett (ff tk)]) else n::outs far ns tk
theorem zJG {a z n:ByteArray} {r:List (ByteArray×ByteArray)} (h:n≠a):nw ((a,z)::r) n=nw r n:=by simp[nw,Ne.symm h]
theorem zHD (far:List ByteArray):∀(ns tk:List ByteArray),∀q∈rens far ns tk,q.1∈ns
 | [],_,q,h=>by simp[rens] at h
 | n::ns,tk,q,h=>by
  simp only[rens] at h;split at h
  ·rcases List.mem_cons.1 h with rfl|h
   ·simp
   ·exact List.mem_cons_of_mem _ (zHD far ns _ q h)
  ·exact List.mem_cons_of_mem _ (zHD far ns _ q h)
theorem z1L:∀(r:List (ByteArray×ByteArray)) (n:ByteArray),(∀q∈r,q.1≠n)->nw r n=n
 | [],_,_=>rfl
 | (a,z)::r,n,h=>by
  rw[zJG (fun e=>h (a,z) (by simp) e.symm)];exact z1L r n fun q hq=>h q (by simp[hq])
theorem zNP (far:List ByteArray):∀(ns tk:List ByteArray),ns.Nodup->ns.map (nw (rens far ns tk))=outs far ns tk
 | [],_,_=>rfl
 | n::ns,tk,h=>by
  have hn:=List.nodup_cons.1 h;simp only[rens,outs];split
  ·rw[List.map_cons]
   congr 1
   ·simp[nw]
   ·rw[<-zNP far ns _ hn.2];refine List.map_congr_left fun x hx=>?_;have hxn:x≠n:=fun e=>hn.1 (by rw[<-e];exact hx);rw[zJG hxn]
  ·rw[List.map_cons,zNP far ns tk hn.2]
   congr 1
   exact z1L _ _ fun q hq e=>hn.1 (by have:=zHD far ns tk q hq;rw[e] at this;exact this)
theorem zFN (far:List ByteArray):∀(ns tk:List ByteArray),∀o∈outs far ns tk,(o∈ns/\o∉far)∨o∉tk
 | [],_,o,h=>by simp[outs] at h
 | n::ns,tk,o,h=>by
  simp only[outs] at h;split at h<;>rename_i hf
  ·rcases List.mem_cons.1 h with rfl|h
   ·exact .inr (zN7 tk)
   ·rcases zFN far ns _ o h with⟨h1,h2⟩|h1
    ·exact .inl ⟨by simp[h1],h2⟩
    ·exact .inr fun q=>h1 (by simp[q])
  ·rcases List.mem_cons.1 h with rfl|h
   ·exact .inl ⟨by simp,hf⟩
   ·rcases zFN far ns _ o h with⟨h1,h2⟩|h1
    ·exact .inl ⟨by simp[h1],h2⟩
    ·exact .inr h1
theorem zCB (far:List ByteArray):∀(ns tk:List ByteArray),ns.Nodup->(∀x∈ns,x∈tk)->(outs far ns tk).Nodup
 | [],_,_,_=>List.nodup_nil
 | n::ns,tk,h,hs=>by
  have hn:=List.nodup_cons.1 h;simp only[outs];split<;>rename_i hf
  ·refine List.nodup_cons.2 ⟨fun hm=>?_,zCB far ns _ hn.2 fun x hx=>by simp[hs x (by simp[hx])]⟩;rcases zFN far ns _ _ hm with⟨h1,_⟩|h1
   ·exact zN7 tk (hs _ (by simp[h1]))
   ·exact h1 (by simp)
  ·refine List.nodup_cons.2 ⟨fun hm=>?_,zCB far ns _ hn.2 fun x hx=>hs x (by simp[hx])⟩;rcases zFN far ns _ _ hm with⟨h1,_⟩|h1
   ·exact hn.1 h1
   ·exact h1 (hs _ (by simp))
set_option maxHeartbeats 4000000
noncomputable abbrev zU3 (k:Nat) (rs:List (ByteArray×ByteArray)) (p:Cr):Cr:=rs.foldl (fun p q=>sbF k p q.1 (vr q.2)) p
theorem zMZ {f n:Int} {s:ByteArray} {t:Tp} {g:Cr} (ho:(Cr.node f n s t g).Ok):(Cr.node f n s t g).names0.Nodup:=by
 obtain⟨h1,h2,h3,h4,h5,h6,h7,h8⟩:=ho;simp only[Cr.names0,Cr.own,Cr.binds];by_cases hf:f=5
 ·have:g.binds=[]:=by by_cases hb:g.binds=[];exact hb;have:=h5 hb;omega
  rw[if_pos hf,this];simp
 ·rw[if_neg hf];exact h7
theorem zQF {f n:Int} {s:ByteArray} {t:Tp} {g:Cr} (ho:(Cr.node f n s t g).Ok) (h:g.alts≠[]):(Cr.node f n s t g).names0=[]:=by
 obtain⟨h1,h2,h3,h4,h5,h6,h7,h8⟩:=ho;have hf:=h6 h;simp only[Cr.names0,Cr.own,Cr.binds];have:g.binds=[]:=by by_cases hb:g.binds=[];exact hb;have:=h5 hb;omega
 rw[this,if_neg (by omega)];rfl
theorem zL9 {fr ns far:List ByteArray} {x:ByteArray} {rs:List (ByteArray×ByteArray)} (h:plan fr ns x far=some rs):x∈fr/\x∉ns/\rs=rens far ns (fr++ns++far):=by
 unfold plan at h;split at h
 ·rename_i q;injection h with h;exact⟨q.1,q.2,h.symm⟩
 ·cases h
theorem zLM (z:ByteArray):(vr z).Ok:=⟨rfl,fun _=>⟨rfl,rfl⟩,fun h=>absurd h (by decide),rfl,fun h=>absurd rfl h,fun h=>absurd rfl h,List.nodup_nil,trivial⟩
theorem z1P (z:ByteArray):(vr z).sz=1:=rfl
abbrev Stays (k:Nat):Prop := ∀(c:Cr) (x:ByteArray) (b:Cr),c.isN=true->c.Ok->b.isN=true->b.Ok->(sbF k c x b).isN=true/\(sbF k c x b).Ok/\(b.sz=1->(sbF k c x b).sz=c.sz)
theorem zSF {k:Nat} (ih:Stays k):∀(rs:List (ByteArray×ByteArray)) (p:Cr),p.isN=true->p.Ok->(zU3 k rs p).isN=true/\(zU3 k rs p).Ok/\(zU3 k rs p).sz=p.sz
 | [],p,h1,h2=>⟨h1,h2,rfl⟩
 | q::rs,p,h1,h2=>by
  obtain⟨a1,a2,a3⟩:=ih p q.1 (vr q.2) h1 h2 rfl (zLM _);obtain⟨b1,b2,b3⟩:=zSF ih rs _ a1 a2;exact⟨b1,b2,b3.trans (a3 (z1P _))⟩
theorem zXK {φ:List (ByteArray×ByteArray)->Cr->Cr} {x:ByteArray} {far vs:List ByteArray} {p:Cr} {N:Prop} (hv:vs.Nodup) (h1:p.isN=true) (h2:p.Ok) (h:∀rs,(φ rs p).isN=true/\(φ rs p).Ok/\(N->(φ rs p).sz=p.sz)) :
  (zBO φ x far vs p).1.Nodup/\(zBO φ x far vs p).2.isN=true/\(zBO φ x far vs p).2.Ok/\(N->(zBO φ x far vs p).2.sz=p.sz):=by
 unfold zBO;cases hp:plan p.fv vs x far with
 | none=>exact⟨hv,h1,h2,fun _=>rfl⟩
 | some rs =>
  obtain⟨q1,q2,q3⟩:=zL9 hp;refine⟨?_,h rs⟩;show (vs.map (nw rs)).Nodup;rw[q3,zNP _ _ _ hv];exact zCB _ _ _ hv fun y hy=>by simp[hy]
theorem zNO (k:Nat):Stays k:=by
 induction k with
 | zero=>intro c x b hn ho _ _;cases c<;>first|(cases hn;done)|exact⟨rfl,ho,fun _=>rfl⟩
 | succ k ih =>
  intro c x b hn ho hbn hbo;cases c with
  | node f n s t g =>
   obtain⟨hg,hgo⟩:=xQ ho;simp only[sbF];have gen:∀(φ:Cr->Cr) (ν:ByteArray->ByteArray) (α:List ByteArray->Cr->List ByteArray×Cr) (s':ByteArray),((g.binds.map (·.1)).map ν).Nodup->(∀p,p.isN=true->p.Ok->(φ p).isN=true/\(φ p).Ok/\(b.sz=1->(φ p).sz=p.sz))->(∀vs p,vs.Nodup->p.isN=true->p.Ok->(α vs p).1.Nodup/\(α vs p).2.isN=true/\(α vs p).2.Ok/\(b.sz=1->(α vs p).2.sz=p.sz)) ->
     (Cr.node f n s' t (yQ φ id ν α g)).isN=true/\(Cr.node f n s' t (yQ φ id ν α g)).Ok/\(b.sz=1->(Cr.node f n s' t (yQ φ id ν α g)).sz=(Cr.node f n s t g).sz):=fun φ ν α s' hν hφ hα=>by
    have hk:∀p∈g.kids,_:=fun p hp=>hφ p (hgo.kid hp).1 (hgo.kid hp).2;have hb:∀b∈g.binds,_:=fun b hb=>hφ b.2.2 (hgo.bind hb).1 (hgo.bind hb).2;have ha:∀a∈g.alts,_:=fun a ha=>hα a.2.1 a.2.2 (hgo.alt ha).2.2 (hgo.alt ha).1 (hgo.alt ha).2.1;refine⟨rfl,zSU ho id (zS8 hg hgo (fun p hp=>⟨(hk p hp).2.1,(hk p hp).1⟩) (fun b hp=>⟨(hb b hp).2.1,(hb b hp).1⟩) (fun a hp=>⟨(ha a hp).2.2.1,(ha a hp).2.1,(ha a hp).1⟩)) hν,fun h1=>?_⟩;simp only[Cr.sz];rw[zSN hg hgo (fun p hp=>(hk p hp).2.2 h1) (fun b hp=>(hb b hp).2.2 h1) (fun a hp=>(ha a hp).2.2.2 h1)]
   have one:∀(rs:List (ByteArray×ByteArray)) (p:Cr),p.isN=true->p.Ok->(sbF k (zU3 k rs p) x b).isN=true/\(sbF k (zU3 k rs p) x b).Ok/\(b.sz=1->(sbF k (zU3 k rs p) x b).sz=p.sz):=fun rs p h1 h2=>by
    obtain⟨a1,a2,a3⟩:=zSF ih rs p h1 h2;obtain⟨b1,b2,b3⟩:=ih _ x b a1 a2 hbn hbo;exact⟨b1,b2,fun q=>(b3 q).trans a3⟩
   have alt:∀(vs:List ByteArray) (p:Cr),vs.Nodup->p.isN=true->p.Ok->_:=fun vs p hv h1 h2=>zXK (φ:=fun rs p=>sbF k (rs.foldl (fun p q=>sbF k p q.1 (vr q.2)) p) x b) (x:=x) (far:=b.fv) (N:=b.sz=1) hv h1 h2 fun rs=>one rs p h1 h2;have hid:((g.binds.map (·.1)).map id).Nodup:=by rw[List.map_id];exact ho.2.2.2.2.2.2.1
   split
   ·split
    ·exact⟨hbn,hbo,fun hb1=>by rename_i h1 _;rw[hb1,(ho.2.1 h1).2];rfl⟩
    ·exact⟨rfl,ho,fun _=>rfl⟩
   split
   ·split
    ·split
     ·refine gen _ _ _ _ hid (fun p hn hp=>?_) (fun vs p hv hn hp=>⟨hv,hn,hp,fun _=>rfl⟩);obtain⟨q1,q2,q3⟩:=zEE k p s (.var (lett (ff (b.tv++g.tv)))) hp;obtain⟨r1,r2,r3⟩:=ih _ x b (by rw[zTC];exact hn) q3 hbn hbo;exact⟨r1,r2,fun q=>(r3 q).trans q1⟩
     ·exact gen _ _ _ _ hid (fun p hn hp=>ih p x b hn hp hbn hbo) (fun vs p hv hn hp=>⟨hv,hn,hp,fun _=>rfl⟩)
    ·exact⟨rfl,ho,fun _=>rfl⟩
   ·split
    ·exact gen _ _ _ _ hid (fun p hn hp=>⟨hn,hp,fun _=>rfl⟩) alt
    ·rename_i rs hp;obtain⟨q1,q2,q3⟩:=zL9 hp;refine gen _ _ _ _ ?_ (one rs) alt;have hnd:=zMZ ho;have:((Cr.node f n s t g).names0.map (nw rs)).Nodup:=by
      rw[q3,zNP _ _ _ hnd];exact zCB _ _ _ hnd fun y hy=>List.mem_append_left _ (List.mem_append_right _ hy)
     simp only[Cr.names0,List.map_append] at this;exact (List.nodup_append.1 this).2.1
  | _=>cases hn
abbrev Bdg:=ByteArray×Tp×Cr
abbrev Alg:=(Int×Int×ByteArray)×List ByteArray×Cr
structure VA where
 A:Option Addr
 cap:Nat
 z:List AV
structure Ad where
 b0:Nat
 k:VA
 b:VA
 a:VA
 vs:List VA
structure Nd where
 f:Int
 n:Int
 s:ByteArray
 t:Tp
 ks:List Cr
 bs:List Bdg
 ls:List Alg
def lst (ks:List Cr) (bs:List Bdg) (ls:List Alg):Cr:=ks.foldr .kid (bs.foldr (fun b r => .bind b.1 b.2.1 b.2.2 r) (ls.foldr (fun a r => .alt a.1.1 a.1.2.1 a.1.2.2 a.2.1 a.2.2 r) .nil))
def Nd.cr (x:Nd):Cr := .node x.f x.n x.s x.t (lst x.ks x.bs x.ls)
def zJ (c:Cr):Nd:=⟨c.f,c.n,c.s,c.t,c.kids,c.binds,c.alts⟩
theorem zAJ (ks:List Cr) (bs:List Bdg) (ls:List Alg):(lst ks bs ls).kids=ks/\(lst ks bs ls).binds=bs/\(lst ks bs ls).alts=ls/\(lst ks bs ls).isN=false:=by
 induction ks with
 | cons p ks ih=>obtain⟨h1,h2,h3,_⟩:=ih;exact⟨congrArg (p :: ·) h1,h2,h3,rfl⟩
 | nil =>
  induction bs with
  | cons b bs ih=>obtain⟨h1,h2,h3,_⟩:=ih;exact⟨h1,congrArg (b :: ·) h2,h3,rfl⟩
  | nil =>
   induction ls with
   | cons a ls ih=>obtain⟨h1,h2,h3,_⟩:=ih;exact⟨h1,h2,congrArg (a :: ·) h3,rfl⟩
   | nil=>exact⟨rfl,rfl,rfl,rfl⟩
theorem zWZ (g:Cr) (h:g.isN=false) (ho:g.Ok):lst g.kids g.binds g.alts=g:=by
 induction g with
 | nil=>rfl
 | node=>cases h
 | kid p r _ ih=>exact congrArg (Cr.kid p) (ih ho.2.1 ho.2.2.2)
 | bind x t p r _ ih =>
  have:=ih ho.2.1 ho.2.2.2.2;rw[ho.2.2.1] at this;show lst r.kids ((x,t,p)::r.binds) r.alts=_;rw[ho.2.2.1];exact congrArg (Cr.bind x t p) this
 | alt f n s vs p r _ ih =>
  have:=ih ho.2.1 ho.2.2.2.2.2.2;rw[ho.2.2.1,ho.2.2.2.1] at this;show lst r.kids r.binds (((f,n,s),vs,p)::r.alts)=_;rw[ho.2.2.1,ho.2.2.2.1];exact congrArg (Cr.alt f n s vs p) this
theorem zTE {c:Cr} (h:c.isN=true) (ho:c.Ok):(zJ c).cr=c:=by
 cases c with
 | node f n s t g=>show Cr.node f n s t (lst g.kids g.binds g.alts)=_;rw[zWZ g ho.1 ho.2.2.2.2.2.2.2]
 | _=>cases h
theorem zX8 (x:Nd):x.cr.e3 0=eCs x.ks/\x.cr.e3 1=yM x.bs/\x.cr.e3 2=xO x.ls:=by
 obtain⟨h1,h2,h3,_⟩:=zAJ x.ks x.bs x.ls;exact⟨by rw[zU2];exact congrArg eCs h1,by rw[zZX];exact congrArg yM h2,by rw[z0M];exact congrArg xO h3⟩
abbrev slA (v:VA) (n:Nat):AV := .lit (.slice v.A n v.cap)
def blk (v:VA) (n:Nat) (l:List AV):List (Nat×HO):=match n,v.A with
 | _+1,some a=>[(a.block,HO.cells l)]
 | _,_=>[]
def VA.no (v:VA):Nat:=match v.A with|some a=>a.block|none=>0
structure VAok (v:VA) (n:Nat):Prop where
 n0:n=0->Sl0 v.A v.cap
 pos:0<n->∃b,v.A=some ⟨b,0,none⟩/\n<=v.cap
theorem blk_none {v:VA} {l:List AV}:blk v 0 l=[]:=by unfold blk;split<;>simp_all
theorem jR {v:VA} {n:Nat} {l:List AV} (h:VAok v n) (hn:0<n):blk v n l=[(v.no,HO.cells l)]:=by
 obtain⟨b,hb,_⟩:=h.pos hn;obtain⟨m,rfl⟩:∃m,n=m+1:=⟨n-1,by omega⟩
 simp[blk,VA.no,hb]
theorem VAok.at {v:VA} {n:Nat} (h:VAok v n) (hn:0<n):v.A=some ⟨v.no,0,none⟩:=by
 obtain⟨b,hb,_⟩:=h.pos hn;simp[VA.no,hb]
def yN (ad:Ad) (x:Nd):List AV:=[.lit (.int .i64 x.f),.lit (.int .i64 x.n),.lit (.string x.s),.lit (.int .i64 x.t.form),.lit (.int .i64 x.t.num),.lit (.string x.t.nam),.sl x.t.eArgs,slA ad.k x.ks.length,slA ad.b x.bs.length,slA ad.a x.ls.length]
def zO6 (a:Alg) (v:VA):AV := .agg [.lit (.int .i64 a.1.1),.lit (.int .i64 a.1.2.1),.lit (.string a.1.2.2),slA v a.2.1.length,.lit (.int .i64 a.2.2.f),.lit (.int .i64 a.2.2.n),.lit (.string a.2.2.s),.lit (.int .i64 a.2.2.t.form),.lit (.int .i64 a.2.2.t.num),.lit (.string a.2.2.t.nam),.sl a.2.2.t.eArgs,.sl (a.2.2.e3 0),.sl (a.2.2.e3 1),.sl (a.2.2.e3 2)]
def xK (ls:List Alg) (vs:List VA):List AV:=List.zipWith zO6 ls vs
def hV (ls:List Alg) (vs:List VA):List (Nat×HO):=(List.zipWith (fun (a:Alg) (v:VA)=>blk v a.2.1.length (flR (eSs a.2.1) v.z)) ls vs).flatten
def hM (ad:Ad) (x:Nd):List (Nat×HO):=blk ad.k x.ks.length (flR (eCs x.ks) ad.k.z)++(blk ad.b x.bs.length (flR (yM x.bs) ad.b.z)++(blk ad.a x.ls.length (flR (xK x.ls ad.vs) ad.a.z)++hV x.ls ad.vs))
def HP (ad:Ad) (x:Nd):List (Nat×HO):=hM ad x++[(ad.b0,HO.cells (yN ad x))]
structure AdOk (ad:Ad) (x:Nd):Prop where
 k:VAok ad.k x.ks.length
 b:VAok ad.b x.bs.length
 a:VAok ad.a x.ls.length
 len:ad.vs.length=x.ls.length
 vs:∀(i:Nat) (a:Alg) (v:VA),x.ls[i]? = some a->ad.vs[i]? = some v->VAok v a.2.1.length
theorem zUM (l:List Cr):Uni 10 (eCs l):=fun a ha=>by obtain⟨x,_,rfl⟩:=List.mem_map.1 ha;rfl
theorem jZ (l:List Bdg):Uni 15 (yM l):=fun a ha=>by obtain⟨x,_,rfl⟩:=List.mem_map.1 ha;rfl
theorem zGA (l:List Alg):Uni 14 (xO l):=fun a ha=>by obtain⟨x,_,rfl⟩:=List.mem_map.1 ha;rfl
theorem zG4 (ls:List Alg) (vs:List VA):Uni 14 (xK ls vs):=by
 induction ls generalizing vs with
 | nil=>intro a ha;simp[xK] at ha
 | cons a ls ih =>
  cases vs with
  | nil=>intro a ha;simp[xK] at ha
  | cons v vs =>
   intro x hx;simp only[xK,List.zipWith_cons_cons,List.mem_cons] at hx;rcases hx with rfl|hx
   ·rfl
   ·exact ih vs x hx
theorem z5L {l:List Cr} {k:Nat} (h:k<l.length):(eCs l)[k]? = some (eC l[k]):=by simp[eCs,h]
theorem zO4 {l:List Bdg} {k:Nat} (h:k<l.length):(yM l)[k]? = some (eBd l[k]):=by simp[yM,h]
theorem z1F {l:List Alg} {k:Nat} (h:k<l.length):(xO l)[k]? = some (eAl l[k]):=by simp[xO,h]
end Go.Proofs.YtgonkhaebmfgiaaGreatDoor
