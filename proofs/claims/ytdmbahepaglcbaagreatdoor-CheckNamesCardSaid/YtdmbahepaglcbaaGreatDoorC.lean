/- A part of the proof of a given statement: contracts of functions of the program, under no condition but those that each states. -/
import Derived.Test.YtdmbahepaglcbaaGreatDoorB
import Derived.Test.YtdmbahepaglcbaaGreatDoorFpM
set_option linter.unusedSimpArgs false
set_option linter.unusedVariables false
namespace Go.Proofs.YtdmbahepaglcbaaGreatDoor
open Go Fp
set_option maxRecDepth 100000
set_option maxHeartbeats 8000000
theorem z7E {D:Nat} (t:Tp):∀ps:Env',(∀p∈ps,dp p.2<=D)->dp (sub t ps)<=dp t+D:=by
 induction t with
 | var s =>
  intro ps h;simp only[sub];cases hl:look s ps with
  | none=>simp[dp]
  | some u=>have:dp u<=D:=h _ (zC7 hl);simp only[dp,Option.getD_some];omega
 | app a b iha ihb =>
  intro ps h;have h1:=iha ps h;have h2:=ihb ps h;simp only[sub,dp];omega
 | all s a ih =>
  intro ps h;simp only[sub];split
  ·have h3:=ih (kept s (fv a) ps++[(s,.var (lett (ff (caught (kept s (fv a) ps)++fv a))))]) (fun p hp=>by
    rcases List.mem_append.1 hp with hp|hp
    ·exact h p (zA8 hp)
    ·simp at hp;subst hp;simp[dp])
   simp only[dp];omega
  ·have h3:=ih (kept s (fv a) ps) (fun p hp=>h p (zA8 hp));simp only[dp];omega
 | _=>intro ps h;simp[sub,dp]
def nl:Tp->List ByteArray->ByteArray
 | .mt n,_=>⟨#[63]⟩++dcm n.toNat
 | .var s,x=>if memb s x then ⟨#[35]⟩++dcm (ixN x.reverse s) else ⟨#[39]⟩++s
 | .con s,_=>s
 | .all s a,x=>(⟨#[91]⟩++nl a (x++[s]))++⟨#[93]⟩
 | .app a b,x=>((((⟨#[40]⟩++nl a x)++⟨#[32]⟩)++nl b x)++⟨#[41]⟩)
 | .no,_ => .empty
theorem zHU {n:Int} (h0 : -1<=n) (h1:n<9223372036854775807):IntKind.i64.wrap n=n:=wrap_in (by unfold InR;omega)
def tk (c:UInt8):Bool:=(48<=c && c<=57) || (65<=c && c<=90) || (97<=c && c<=122)
abbrev by' (s:ByteArray):List UInt8:=s.data.toList
theorem zDX (a b:ByteArray):by' (a++b)=by' a++by' b:=zRN a b
theorem zQ5 {a b:ByteArray} (h:by' a=by' b):a=b:=by
 cases a;cases b;simpa[by',Array.toList_inj] using h
theorem z6B:∀d:Fin 10,tk (UInt8.ofNat (48+d.val))=true:=by decide
theorem zcG (n:Nat):∀c∈by' (dcm n),tk c=true:=by
 induction n using Nat.strongRecOn with
 | _ n ih =>
  intro c hc;by_cases h:n<10
  ·rw[zAW h] at hc;rw[List.mem_singleton.1 (show c∈[UInt8.ofNat (48+n)] from hc)];exact z6B ⟨n,h⟩
  ·rw[zFD h,zDX] at hc;rcases List.mem_append.1 hc with hc|hc
   ·exact ih (n / 10) (by omega) c hc
   ·rw[List.mem_singleton.1 (show c∈[UInt8.ofNat (48+n % 10)] from hc)];exact z6B ⟨n % 10,by omega⟩
theorem zYG {a b:Nat} (h:by' (dcm a)=by' (dcm b)):a=b:=by rw[<-zLU a,<-zLU b];exact congrArg digs h
def ser:Db->List UInt8
 | .mt n=>63::by' (dcm n.toNat)
 | .bv i=>35::by' (dcm i)
 | .fr s=>39::by' s
 | .con s=>by' s
 | .all a=>91::(ser a++[93])
 | .app a b=>40::(ser a++32::(ser b++[41]))
 | .no=>[]
theorem zI0 (t:Tp):∀x,by' (nl t x)=ser (db t x.reverse):=by
 induction t with
 | no=>intro x;rfl
 | mt n=>intro x;rw[nl,zDX];rfl
 | con s=>intro x;rfl
 | var s =>
  intro x;simp only[nl,db,zT8];split
  ·rw[zDX];rfl
  ·rw[zDX];rfl
 | app a b iha ihb =>
  intro x;simp only[nl,zDX,iha,ihb,db,ser];simp[by']
 | all s a ih =>
  intro x;simp only[nl,zDX,ih,db,ser,List.reverse_append,List.reverse_cons,List.reverse_nil,List.nil_append,List.singleton_append];simp[by']
set_option linter.unusedVariables false
set_option linter.unusedSimpArgs false
abbrev fvT (t:Tp):List ByteArray:=fv t
inductive Cr where
 | nil
 | node (f n:Int) (s:ByteArray) (t:Tp) (g:Cr)
 | kid (p r:Cr)
 | bind (x:ByteArray) (t:Tp) (p r:Cr)
 | alt (f n:Int) (s:ByteArray) (vs:List ByteArray) (p r:Cr)
 deriving DecidableEq
namespace Cr
def f:Cr->Int|node f _ _ _ _=>f|_=>0
def n:Cr->Int|node _ n _ _ _=>n|_=>0
def s:Cr->ByteArray|node _ _ s _ _=>s|_ => .empty
def t:Cr->Tp|node _ _ _ t _=>t|_ => .no
def isN:Cr->Bool|node _ _ _ _ _=>true|_=>false
def e3:Cr->Nat->List AV
 | nil,_=>[]
 | node _ _ _ _ g,i=>e3 g i
 | kid p r,i=>match i with
  | 0 => .agg [.lit (.int .i64 p.f),.lit (.int .i64 p.n),.lit (.string p.s),.lit (.int .i64 p.t.form),.lit (.int .i64 p.t.num),.lit (.string p.t.nam),.sl p.t.eArgs,.sl (e3 p 0),.sl (e3 p 1),.sl (e3 p 2)]::e3 r 0
  | i+1=>e3 r (i+1)
 | bind x t p r,i=>match i with
  | 1 => .agg [.lit (.string x),.lit (.int .i64 t.form),.lit (.int .i64 t.num),.lit (.string t.nam),.sl t.eArgs,.lit (.int .i64 p.f),.lit (.int .i64 p.n),.lit (.string p.s),.lit (.int .i64 p.t.form),.lit (.int .i64 p.t.num),.lit (.string p.t.nam),.sl p.t.eArgs,.sl (e3 p 0),.sl (e3 p 1),.sl (e3 p 2)]::e3 r 1
  | 0=>e3 r 0
  | i+2=>e3 r (i+2)
 | alt f n s vs p r,i=>match i with
  | 2 => .agg [.lit (.int .i64 f),.lit (.int .i64 n),.lit (.string s),.sl (eSs vs),.lit (.int .i64 p.f),.lit (.int .i64 p.n),.lit (.string p.s),.lit (.int .i64 p.t.form),.lit (.int .i64 p.t.num),.lit (.string p.t.nam),.sl p.t.eArgs,.sl (e3 p 0),.sl (e3 p 1),.sl (e3 p 2)]::e3 r 2
  | 0=>e3 r 0
  | 1=>e3 r 1
  | i+3=>e3 r (i+3)
def kids:Cr->List Cr
 | nil=>[]
 | node _ _ _ _ g=>kids g
 | kid p r=>p::kids r
 | bind _ _ _ r=>kids r
 | alt _ _ _ _ _ r=>kids r
def binds:Cr->List (ByteArray×Tp×Cr)
 | nil=>[]
 | node _ _ _ _ g=>binds g
 | kid _ r=>binds r
 | bind x t p r=>(x,t,p)::binds r
 | alt _ _ _ _ _ r=>binds r
def alts:Cr->List ((Int×Int×ByteArray)×List ByteArray×Cr)
 | nil=>[]
 | node _ _ _ _ g=>alts g
 | kid _ r=>alts r
 | bind _ _ _ r=>alts r
 | alt f n s vs p r=>((f,n,s),vs,p)::alts r
def sz:Cr->Nat
 | nil=>0
 | node _ _ _ _ g=>1+sz g
 | kid p r=>sz p+sz r
 | bind _ _ p r=>sz p+sz r
 | alt _ _ _ _ p r=>sz p+sz r
end Cr
def eC (c:Cr):AV := .agg [.lit (.int .i64 c.f),.lit (.int .i64 c.n),.lit (.string c.s),.lit (.int .i64 c.t.form),.lit (.int .i64 c.t.num),.lit (.string c.t.nam),.sl c.t.eArgs,.sl (c.e3 0),.sl (c.e3 1),.sl (c.e3 2)]
def eBd (b:ByteArray×Tp×Cr):AV := .agg [.lit (.string b.1),.lit (.int .i64 b.2.1.form),.lit (.int .i64 b.2.1.num),.lit (.string b.2.1.nam),.sl b.2.1.eArgs,.lit (.int .i64 b.2.2.f),.lit (.int .i64 b.2.2.n),.lit (.string b.2.2.s),.lit (.int .i64 b.2.2.t.form),.lit (.int .i64 b.2.2.t.num),.lit (.string b.2.2.t.nam),.sl b.2.2.t.eArgs,.sl (b.2.2.e3 0),.sl (b.2.2.e3 1),.sl (b.2.2.e3 2)]
def eAl (a:(Int×Int×ByteArray)×List ByteArray×Cr):AV := .agg [.lit (.int .i64 a.1.1),.lit (.int .i64 a.1.2.1),.lit (.string a.1.2.2),.sl (eSs a.2.1),.lit (.int .i64 a.2.2.f),.lit (.int .i64 a.2.2.n),.lit (.string a.2.2.s),.lit (.int .i64 a.2.2.t.form),.lit (.int .i64 a.2.2.t.num),.lit (.string a.2.2.t.nam),.sl a.2.2.t.eArgs,.sl (a.2.2.e3 0),.sl (a.2.2.e3 1),.sl (a.2.2.e3 2)]
def eCs (l:List Cr):List AV:=l.map eC
def yK (l:List (ByteArray×Tp×Cr)):List AV:=l.map eBd
def yY (l:List ((Int×Int×ByteArray)×List ByteArray×Cr)):List AV:=l.map eAl
theorem zNB (c:Cr):c.e3 0=eCs c.kids:=by
 induction c with
 | nil=>rfl
 | node f n s t g ih=>exact ih
 | kid p r _ ih=>show eC p::_=_;rw[ih];rfl
 | bind x t p r _ ih=>exact ih
 | alt f n s vs p r _ ih=>exact ih
theorem zI4 (c:Cr):c.e3 1=yK c.binds:=by
 induction c with
 | nil=>rfl
 | node f n s t g ih=>exact ih
 | kid p r _ ih=>exact ih
 | bind x t p r _ ih=>show eBd (x,t,p)::_=_;rw[ih];rfl
 | alt f n s vs p r _ ih=>exact ih
theorem zKQ (c:Cr):c.e3 2=yY c.alts:=by
 induction c with
 | nil=>rfl
 | node f n s t g ih=>exact ih
 | kid p r _ ih=>exact ih
 | bind x t p r _ ih=>exact ih
 | alt f n s vs p r _ ih=>show eAl ((f,n,s),vs,p)::_=_;rw[ih];rfl
namespace Cr
def parts0 (c:Cr):List Cr:=c.kids++c.binds.map (·.2.2)
def own:Cr->List ByteArray
 | node f _ s _ _=>if f=5 then [s] else []
 | _=>[]
def names0 (c:Cr):List ByteArray:=c.own++c.binds.map (·.1)
def fv:Cr->List ByteArray
 | nil=>[]
 | node f n s t g=>if f=1 then [s] else zC (fun y=>memb y (names0 (node f n s t g))) [] (fv g)
 | kid p r=>zC no (fv p) (fv r)
 | bind _ _ p r=>zC no (fv p) (fv r)
 | alt _ _ _ vs p r=>zC no (zC (fun y=>memb y vs) [] (fv p)) (fv r)
def tv:Cr->List ByteArray
 | nil=>[]
 | node f _ s t g=>zC (fun y=>decide (f=7) && decide (y=s)) (fvT t) (tv g)
 | kid p r=>zC no (tv p) (tv r)
 | bind _ t p r=>zC no (zC no (fvT t) (tv p)) (tv r)
 | alt _ _ _ _ p r=>zC no (tv p) (tv r)
def nk (f:Int):Nat:=if f=4∨f=10 then 2 else if f=5∨f=6∨f=7∨f=8∨f=9 then 1 else 0
def Ok:Cr->Prop
 | nil=>True
 | node f n s t g=>g.isN=false/\(f=1->t = .no/\g=nil)/\(f=7->t = .no)/\g.kids.length=nk f/\(g.binds≠[]->f=8)/\(g.alts≠[]->f=9)/\(g.binds.map (·.1)).Nodup/\Ok g
 | kid p r=>p.isN=true/\r.isN=false/\Ok p/\Ok r
 | bind x t p r=>p.isN=true/\r.isN=false/\r.kids=[]/\Ok p/\Ok r
 | alt f n s vs p r=>p.isN=true/\r.isN=false/\r.kids=[]/\r.binds=[]/\vs.Nodup/\Ok p/\Ok r
end Cr
abbrev Bdg:=ByteArray×Tp×Cr
abbrev Alg:=(Int×Int×ByteArray)×List ByteArray×Cr
structure VA where
 A:Option Addr
 cap:Nat
 z:List AV
structure Ad where
 b0:Nat
 k:VA
 b:VA
 a:VA
 vs:List VA
structure Nd where
 f:Int
 n:Int
 s:ByteArray
 t:Tp
 ks:List Cr
 bs:List Bdg
 ls:List Alg
def lst (ks:List Cr) (bs:List Bdg) (ls:List Alg):Cr:=ks.foldr .kid (bs.foldr (fun b r => .bind b.1 b.2.1 b.2.2 r) (ls.foldr (fun a r => .alt a.1.1 a.1.2.1 a.1.2.2 a.2.1 a.2.2 r) .nil))
def Nd.cr (x:Nd):Cr := .node x.f x.n x.s x.t (lst x.ks x.bs x.ls)
def zA6 (c:Cr):Nd:=⟨c.f,c.n,c.s,c.t,c.kids,c.binds,c.alts⟩
theorem zBP (ks:List Cr) (bs:List Bdg) (ls:List Alg):(lst ks bs ls).kids=ks/\(lst ks bs ls).binds=bs/\(lst ks bs ls).alts=ls/\(lst ks bs ls).isN=false:=by
 induction ks with
 | cons p ks ih=>obtain⟨h1,h2,h3,_⟩:=ih;exact⟨congrArg (p :: ·) h1,h2,h3,rfl⟩
 | nil =>
  induction bs with
  | cons b bs ih=>obtain⟨h1,h2,h3,_⟩:=ih;exact⟨h1,congrArg (b :: ·) h2,h3,rfl⟩
  | nil =>
   induction ls with
   | cons a ls ih=>obtain⟨h1,h2,h3,_⟩:=ih;exact⟨h1,h2,congrArg (a :: ·) h3,rfl⟩
   | nil=>exact⟨rfl,rfl,rfl,rfl⟩
theorem z2W (g:Cr) (h:g.isN=false) (ho:g.Ok):lst g.kids g.binds g.alts=g:=by
 induction g with
 | nil=>rfl
 | node=>cases h
 | kid p r _ ih=>exact congrArg (Cr.kid p) (ih ho.2.1 ho.2.2.2)
 | bind x t p r _ ih =>
  have:=ih ho.2.1 ho.2.2.2.2;rw[ho.2.2.1] at this;show lst r.kids ((x,t,p)::r.binds) r.alts=_;rw[ho.2.2.1];exact congrArg (Cr.bind x t p) this
 | alt f n s vs p r _ ih =>
  have:=ih ho.2.1 ho.2.2.2.2.2.2;rw[ho.2.2.1,ho.2.2.2.1] at this;show lst r.kids r.binds (((f,n,s),vs,p)::r.alts)=_;rw[ho.2.2.1,ho.2.2.2.1];exact congrArg (Cr.alt f n s vs p) this
theorem zdT {c:Cr} (h:c.isN=true) (ho:c.Ok):(zA6 c).cr=c:=by
 cases c with
 | node f n s t g=>show Cr.node f n s t (lst g.kids g.binds g.alts)=_;rw[z2W g ho.1 ho.2.2.2.2.2.2.2]
 | _=>cases h
theorem z3W (x:Nd):x.cr.e3 0=eCs x.ks/\x.cr.e3 1=yK x.bs/\x.cr.e3 2=yY x.ls:=by
 obtain⟨h1,h2,h3,_⟩:=zBP x.ks x.bs x.ls;exact⟨by rw[zNB];exact congrArg eCs h1,by rw[zI4];exact congrArg yK h2,by rw[zKQ];exact congrArg yY h3⟩
abbrev slA (v:VA) (n:Nat):AV := .lit (.slice v.A n v.cap)
def blk (v:VA) (n:Nat) (l:List AV):List (Nat×HO):=match n,v.A with
 | _+1,some a=>[(a.block,HO.cells l)]
 | _,_=>[]
def VA.no (v:VA):Nat:=match v.A with|some a=>a.block|none=>0
structure VAok (v:VA) (n:Nat):Prop where
 n0:n=0->Sl0 v.A v.cap
 pos:0<n->∃b,v.A=some ⟨b,0,none⟩/\n<=v.cap
theorem z2M {v:VA} {l:List AV}:blk v 0 l=[]:=by unfold blk;split<;>simp_all
theorem zEJ {v:VA} {n:Nat} {l:List AV} (h:VAok v n) (hn:0<n):blk v n l=[(v.no,HO.cells l)]:=by
 obtain⟨b,hb,_⟩:=h.pos hn;obtain⟨m,rfl⟩:∃m,n=m+1:=⟨n-1,by omega⟩
 simp[blk,VA.no,hb]
theorem VAok.at {v:VA} {n:Nat} (h:VAok v n) (hn:0<n):v.A=some ⟨v.no,0,none⟩:=by
 obtain⟨b,hb,_⟩:=h.pos hn;simp[VA.no,hb]
def zBJ (ad:Ad) (x:Nd):List AV:=[.lit (.int .i64 x.f),.lit (.int .i64 x.n),.lit (.string x.s),.lit (.int .i64 x.t.form),.lit (.int .i64 x.t.num),.lit (.string x.t.nam),.sl x.t.eArgs,slA ad.k x.ks.length,slA ad.b x.bs.length,slA ad.a x.ls.length]
def zW0 (a:Alg) (v:VA):AV := .agg [.lit (.int .i64 a.1.1),.lit (.int .i64 a.1.2.1),.lit (.string a.1.2.2),slA v a.2.1.length,.lit (.int .i64 a.2.2.f),.lit (.int .i64 a.2.2.n),.lit (.string a.2.2.s),.lit (.int .i64 a.2.2.t.form),.lit (.int .i64 a.2.2.t.num),.lit (.string a.2.2.t.nam),.sl a.2.2.t.eArgs,.sl (a.2.2.e3 0),.sl (a.2.2.e3 1),.sl (a.2.2.e3 2)]
def wR (ls:List Alg) (vs:List VA):List AV:=List.zipWith zW0 ls vs
def hV (ls:List Alg) (vs:List VA):List (Nat×HO):=(List.zipWith (fun (a:Alg) (v:VA)=>blk v a.2.1.length (flR (eSs a.2.1) v.z)) ls vs).flatten
def hM (ad:Ad) (x:Nd):List (Nat×HO):=blk ad.k x.ks.length (flR (eCs x.ks) ad.k.z)++(blk ad.b x.bs.length (flR (yK x.bs) ad.b.z)++(blk ad.a x.ls.length (flR (wR x.ls ad.vs) ad.a.z)++hV x.ls ad.vs))
def HP (ad:Ad) (x:Nd):List (Nat×HO):=hM ad x++[(ad.b0,HO.cells (zBJ ad x))]
structure AdOk (ad:Ad) (x:Nd):Prop where
 k:VAok ad.k x.ks.length
 b:VAok ad.b x.bs.length
 a:VAok ad.a x.ls.length
 len:ad.vs.length=x.ls.length
 vs:∀(i:Nat) (a:Alg) (v:VA),x.ls[i]? = some a->ad.vs[i]? = some v->VAok v a.2.1.length
theorem z0I (l:List Cr):Uni 10 (eCs l):=fun a ha=>by obtain⟨x,_,rfl⟩:=List.mem_map.1 ha;rfl
theorem zF3 (l:List Bdg):Uni 15 (yK l):=fun a ha=>by obtain⟨x,_,rfl⟩:=List.mem_map.1 ha;rfl
theorem zHW (l:List Alg):Uni 14 (yY l):=fun a ha=>by obtain⟨x,_,rfl⟩:=List.mem_map.1 ha;rfl
theorem zIL (ls:List Alg) (vs:List VA):Uni 14 (wR ls vs):=by
 induction ls generalizing vs with
 | nil=>intro a ha;simp[wR] at ha
 | cons a ls ih =>
  cases vs with
  | nil=>intro a ha;simp[wR] at ha
  | cons v vs =>
   intro x hx;simp only[wR,List.zipWith_cons_cons,List.mem_cons] at hx;rcases hx with rfl|hx
   ·rfl
   ·exact ih vs x hx
theorem z0C {l:List Cr} {k:Nat} (h:k<l.length):(eCs l)[k]? = some (eC l[k]):=by simp[eCs,h]
theorem zF4 {l:List Bdg} {k:Nat} (h:k<l.length):(yK l)[k]? = some (eBd l[k]):=by simp[yK,h]
theorem zYU {l:List Alg} {k:Nat} (h:k<l.length):(yY l)[k]? = some (eAl l[k]):=by simp[yY,h]
def zGO (l:List AV) (r:AV) (o:Nat) (h:List (Nat×HO)):Prop:=o=0/\∃v:VA,VAok v l.length/\r=slA v l.length/\h=blk v l.length (flR l v.z)
theorem zHN (A:Option Addr) (cap:Nat) (h:Sl0 A cap):zGO [] (.lit (.slice A 0 cap)) 0 []:=⟨rfl,⟨A,cap,[]⟩,⟨fun _=>h,fun h=>absurd h (by decide)⟩,rfl,(z2M (v:=⟨A,cap,[]⟩)).symm⟩
theorem zH8 {l:List AV} (hl:0<l.length) {b cap:Nat} (hc:l.length<=cap) (zs:List AV):zGO l (.lit (.slice (some ⟨b,0,none⟩) l.length cap)) 0 [(b,HO.cells (flR l zs))] :=
 ⟨rfl,⟨some ⟨b,0,none⟩,cap,zs⟩,⟨fun h=>absurd h (by omega),fun _=>⟨b,rfl,hc⟩⟩,rfl,by
  obtain⟨m,hm⟩:∃m,l.length=m+1:=⟨l.length-1,by omega⟩
  simp[blk,hm]⟩
theorem zVO (l:List AV) (hu:Uni 1 l) (hl:l.length<=1000000):zF Tryz.prog 101 [.sl l] (.sl l):=by
 refine zG ttok mixed Tryz.func101 rfl (by rfl) (Nat.le_of_ble_eq_true rfl) (by kernel_rfl) ?_;cases l with
 | nil=>exact⟨rfl,by simp,by simp[Uni],hu,rfl⟩
 | cons x l=>exact⟨by show 0+(x::l).length<=_;omega,by simp[Uni],hu,rfl⟩
theorem z1I (l:List AV) (hu:Uni 1 l) (hl:l.length<=1000000):CallsG Tryz.prog (fnv 101) [] [.sl l] [] (zGO l):=by
 cases l with
 | nil=>exact (zVO [] hu hl).lit0 zHN
 | cons x l =>
  refine yF (first:=[]) (cap:=[]) ttok mixed Tryz.func101 rfl (by rfl) rfl (Nat.le_of_ble_eq_true rfl) (by kernel_rfl) ?_;refine Wsem.seq ttok mixed ?_;refine Wsem.seq ttok mixed ?_;refine Wsem.seqS (Wsem.regionB ttok rfl rfl rfl rfl rfl fun b=>?_);refine⟨rfl,by simp,by show 0+(x::l).length<=_;omega,hu,?_⟩;refine⟨0,[],rfl,Nat.le_refl _,rfl,fun b' cap' zs h1 h2=>?_⟩;refine Wsem.of ttok mixed ?_;have:=zH8 (l:=x::l) (by simp) (b:=b') (cap:=cap') (by omega) zs;rw[show (x::l).length=0+(x::l).length by omega] at this;exact this
theorem zWN (l:List AV) (hu:Uni 10 l) (hl:l.length<=1000000):zF Tryz.prog 98 [.sl l] (.sl l):=by
 refine zG ttok mixed Tryz.func98 rfl (by rfl) (Nat.le_of_ble_eq_true rfl) (by kernel_rfl) ?_;cases l with
 | nil=>exact⟨rfl,by simp,by simp[Uni],hu,rfl⟩
 | cons x l=>exact⟨by show 0+(x::l).length<=_;omega,by simp[Uni],hu,rfl⟩
theorem z0Q (l:List AV) (hu:Uni 10 l) (hl:l.length<=1000000):CallsG Tryz.prog (fnv 98) [] [.sl l] [] (zGO l):=by
 cases l with
 | nil=>exact (zWN [] hu hl).lit0 zHN
 | cons x l =>
  refine yF (first:=[]) (cap:=[]) ttok mixed Tryz.func98 rfl (by rfl) rfl (Nat.le_of_ble_eq_true rfl) (by kernel_rfl) ?_;refine Wsem.seq ttok mixed ?_;refine Wsem.seq ttok mixed ?_;refine Wsem.seqS (Wsem.regionB ttok rfl rfl rfl rfl rfl fun b=>?_);refine⟨rfl,by simp,by show 0+(x::l).length<=_;omega,hu,?_⟩;refine⟨0,[],rfl,Nat.le_refl _,rfl,fun b' cap' zs h1 h2=>?_⟩;refine Wsem.of ttok mixed ?_;have:=zH8 (l:=x::l) (by simp) (b:=b') (cap:=cap') (by omega) zs;rw[show (x::l).length=0+(x::l).length by omega] at this;exact this
theorem zV3 (l:List AV) (hu:Uni 15 l) (hl:l.length<=1000000):zF Tryz.prog 99 [.sl l] (.sl l):=by
 refine zG ttok mixed Tryz.func99 rfl (by rfl) (Nat.le_of_ble_eq_true rfl) (by kernel_rfl) ?_;cases l with
 | nil=>exact⟨rfl,by simp,by simp[Uni],hu,rfl⟩
 | cons x l=>exact⟨by show 0+(x::l).length<=_;omega,by simp[Uni],hu,rfl⟩
theorem zZF (l:List AV) (hu:Uni 15 l) (hl:l.length<=1000000):CallsG Tryz.prog (fnv 99) [] [.sl l] [] (zGO l):=by
 cases l with
 | nil=>exact (zV3 [] hu hl).lit0 zHN
 | cons x l =>
  refine yF (first:=[]) (cap:=[]) ttok mixed Tryz.func99 rfl (by rfl) rfl (Nat.le_of_ble_eq_true rfl) (by kernel_rfl) ?_;refine Wsem.seq ttok mixed ?_;refine Wsem.seq ttok mixed ?_;refine Wsem.seqS (Wsem.regionB ttok rfl rfl rfl rfl rfl fun b=>?_);refine⟨rfl,by simp,by show 0+(x::l).length<=_;omega,hu,?_⟩;refine⟨0,[],rfl,Nat.le_refl _,rfl,fun b' cap' zs h1 h2=>?_⟩;refine Wsem.of ttok mixed ?_;have:=zH8 (l:=x::l) (by simp) (b:=b') (cap:=cap') (by omega) zs;rw[show (x::l).length=0+(x::l).length by omega] at this;exact this
theorem zVU (l:List AV) (hu:Uni 14 l) (hl:l.length<=1000000):zF Tryz.prog 100 [.sl l] (.sl l):=by
 refine zG ttok mixed Tryz.func100 rfl (by rfl) (Nat.le_of_ble_eq_true rfl) (by kernel_rfl) ?_;cases l with
 | nil=>exact⟨rfl,by simp,by simp[Uni],hu,rfl⟩
 | cons x l=>exact⟨by show 0+(x::l).length<=_;omega,by simp[Uni],hu,rfl⟩
theorem zZ9 (l:List AV) (hu:Uni 14 l) (hl:l.length<=1000000):CallsG Tryz.prog (fnv 100) [] [.sl l] [] (zGO l):=by
 cases l with
 | nil=>exact (zVU [] hu hl).lit0 zHN
 | cons x l =>
  refine yF (first:=[]) (cap:=[]) ttok mixed Tryz.func100 rfl (by rfl) rfl (Nat.le_of_ble_eq_true rfl) (by kernel_rfl) ?_;refine Wsem.seq ttok mixed ?_;refine Wsem.seq ttok mixed ?_;refine Wsem.seqS (Wsem.regionB ttok rfl rfl rfl rfl rfl fun b=>?_);refine⟨rfl,by simp,by show 0+(x::l).length<=_;omega,hu,?_⟩;refine⟨0,[],rfl,Nat.le_refl _,rfl,fun b' cap' zs h1 h2=>?_⟩;refine Wsem.of ttok mixed ?_;have:=zH8 (l:=x::l) (by simp) (b:=b') (cap:=cap') (by omega) zs;rw[show (x::l).length=0+(x::l).length by omega] at this;exact this
abbrev sv (n:Int):SV := .v (.lit (.int .i64 n))
theorem svc {a b:Int} (h:a=b):sv a=sv b:=by rw[h]
theorem zFU (c:Cr):(c.e3 0).length=c.kids.length:=by rw[zNB];simp[eCs]
theorem zNP (c:Cr):(c.e3 1).length=c.binds.length:=by rw[zI4];simp[yK]
theorem zSO (c:Cr):(c.e3 2).length=c.alts.length:=by rw[zKQ];simp[yY]
theorem zJ6 {c:Cr} {k:Nat} (h:k<c.kids.length):(c.e3 0)[k]? = some (eC c.kids[k]):=by rw[zNB];exact z0C h
theorem zNH {c:Cr} {k:Nat} (h:k<c.binds.length):(c.e3 1)[k]? = some (eBd c.binds[k]):=by rw[zI4];exact zF4 h
theorem zO5 {c:Cr} {k:Nat} (h:k<c.alts.length):(c.e3 2)[k]? = some (eAl c.alts[k]):=by rw[zKQ];exact zYU h
theorem zcO {α:Type} (f:α->AV) (hf:∀x,(f x).cells.length=1) (l:List α):Uni 1 (l.map f):=fun a ha=>by obtain⟨x,_,rfl⟩:=List.mem_map.1 ha;exact hf x
theorem zNW {n:Nat} {l m:List AV} (h1:Uni n l) (h2:Uni n m):Uni n (l++m):=fun a ha=>by rcases List.mem_append.1 ha with h|h;exact h1 a h;exact h2 a h
def Grown (v:VA) (k:Nat):Prop:=(k=0/\v.A=none/\v.cap=0)∨(0<k/\∃b,v.A=some ⟨b,0,none⟩/\k<=v.cap/\v.z.length=v.cap-k)
theorem Grown.frz {v:VA} {l:List AV} (h:Grown v l.length) (hu:Uni 1 l) (hc:∀x∈l,∀c∈x.cells,c.isCell=true) (hp:List (Nat×HO)) (hin:∀x∈blk v l.length (flR l v.z),x∈hp):Frz hp (slA v l.length) (.sl l):=by
 rcases h with⟨h0,hA,hcap⟩|⟨h0,b,hA,hcap,hz⟩
 ·have:l=[]:=List.length_eq_zero_iff.1 h0;subst this;unfold slA;rw[hA,hcap];exact .nilL
 ·unfold slA;rw[hA];refine .sl b 0 l.length v.cap 1 (flR l v.z) l ?_ rfl hcap hu hc (by rw[zFE hu];omega) fun i x j c c' hx hj hc'=>?_
  ·obtain⟨m,hm⟩:∃m,l.length=m+1:=⟨l.length-1,by omega⟩
   refine hin _ ?_;simp[blk,hm,hA]
  ·have hi:=(List.getElem?_eq_some_iff.1 hx).1;have hj1:=(List.getElem?_eq_some_iff.1 hj).1;rw[hu x (List.mem_of_getElem? hx)] at hj1;rw[Nat.zero_add,zKU hu v.z hi j hj1] at hc';rw[List.getElem?_eq_getElem hi] at hx;injection hx with hx;subst hx
   rw[hj] at hc';injection hc' with hc';subst hc'
   exact .refl _
abbrev eG0 (nm:AV) (pt:List AV):AV := .agg [nm,.sl pt]
theorem zdH {nl z zs:List AV} {x:AV} {n:Nat} (hn:nl.length=n) (hu:Uni 1 nl) (hx:x.cells.length=1):((flR nl z).drop 0).take (n*1)++([x].flatMap AV.cells++zs)=flR (nl++[x]) zs:=by
 have h1:(flR nl z).take n=nl.flatMap AV.cells:=by
  unfold flR;have:(nl.flatMap AV.cells).length=n:=by have:=zFE hu [];unfold flR at this;rw[List.append_nil] at this;simp only[List.length_nil] at this;omega
  rw[List.take_append_of_le_length (by omega),List.take_of_length_le (by omega)]
 rw[List.drop_zero,Nat.mul_one,h1];simp[flR]
theorem zeD {nl z:List AV} {x:AV} {n:Nat} (hn:nl.length=n) (hu:Uni 1 nl) (hx:x.cells.length=1) (hz:1<=z.length):setAt (flR nl z) (0+n*1) ([x].flatMap AV.cells)=flR (nl++[x]) (z.drop 1):=by
 have hl:(nl.flatMap AV.cells).length=n:=by have:=zFE hu [];unfold flR at this;rw[List.append_nil] at this;simp only[List.length_nil] at this;omega
 unfold flR;have e:0+n*1=(nl.flatMap AV.cells).length+0:=by omega
 rw[e,zIN];simp[setAt,hx]
abbrev sn4 (q:Code):Code:=zCS (zCS (zCS (zCS q)))
theorem hcut {k n:Nat} (h1:k<n) (h2:n<=1000000):IntKind.i64.wrap ((k:Int)+1)=((k+1:Nat):Int):=wrap_succ (by omega)
theorem zaT {v:VA} {n:Nat} {l:List AV} (hA:v.A=none):blk v n l=[]:=by unfold blk;rw[hA];cases n<;>rfl
theorem zI2 {v:VA} {n:Nat} {l:List AV} {b:Nat} (h:0<n) (hA:v.A=some ⟨b,0,none⟩):blk v n l=[(b,HO.cells l)]:=by
 obtain⟨m,hm⟩:∃m,n=m+1:=⟨n-1,by omega⟩
 simp[blk,hm,hA]
theorem zBF {c p:Cr} (h:p∈c.kids):p.sz+(if c.isN then 1 else 0)<=c.sz:=by
 induction c with
 | nil=>simp[Cr.kids] at h
 | node f n s t g ih=>have:=ih h;simp only[Cr.sz,Cr.isN] at *;split at this<;>simp<;>omega
 | kid q r _ ih =>
  simp only[Cr.kids,List.mem_cons] at h;simp only[Cr.sz,Cr.isN];rcases h with rfl|h
  ·simp
  ·have:=ih h;simp;omega
 | bind x t q r _ ih=>have:=ih h;simp only[Cr.sz,Cr.isN];simp;omega
 | alt f n s vs q r _ ih=>have:=ih h;simp only[Cr.sz,Cr.isN];simp;omega
theorem zCF {c:Cr} {b:ByteArray×Tp×Cr} (h:b∈c.binds):b.2.2.sz+(if c.isN then 1 else 0)<=c.sz:=by
 induction c with
 | nil=>simp[Cr.binds] at h
 | node f n s t g ih=>have:=ih h;simp only[Cr.sz,Cr.isN] at *;split at this<;>simp<;>omega
 | kid q r _ ih=>have:=ih h;simp only[Cr.sz,Cr.isN];simp;omega
 | bind x t q r _ ih =>
  simp only[Cr.binds,List.mem_cons] at h;simp only[Cr.sz,Cr.isN];rcases h with rfl|h
  ·simp
  ·have:=ih h;simp;omega
 | alt f n s vs q r _ ih=>have:=ih h;simp only[Cr.sz,Cr.isN];simp;omega
theorem zEH {c:Cr} {b:(Int×Int×ByteArray)×List ByteArray×Cr} (h:b∈c.alts):b.2.2.sz+(if c.isN then 1 else 0)<=c.sz:=by
 induction c with
 | nil=>simp[Cr.alts] at h
 | node f n s t g ih=>have:=ih h;simp only[Cr.sz,Cr.isN] at *;split at this<;>simp<;>omega
 | kid q r _ ih=>have:=ih h;simp only[Cr.sz,Cr.isN];simp;omega
 | bind x t q r _ ih=>have:=ih h;simp only[Cr.sz,Cr.isN];simp;omega
 | alt f n s vs q r _ ih =>
  simp only[Cr.alts,List.mem_cons] at h;simp only[Cr.sz,Cr.isN];rcases h with rfl|h
  ·simp
  ·have:=ih h;simp;omega
theorem zIK (c:Cr):c.fv.Nodup:=by
 induction c with
 | nil=>exact List.nodup_nil
 | node f n s t g ih=>simp only[Cr.fv];split;exact List.nodup_cons.2 ⟨by simp,List.nodup_nil⟩;exact yE List.nodup_nil
 | kid p r ihp ihr=>exact yE ihp
 | bind x t p r ihp ihr=>exact yE ihp
 | alt f n s vs p r ihp ihr=>exact yE (yE List.nodup_nil)
theorem z0J (c:Cr):c.tv.Nodup:=by
 induction c with
 | nil=>exact List.nodup_nil
 | node f n s t g ih=>exact yE (zBW t)
 | kid p r ihp ihr=>exact yE ihp
 | bind x t p r ihp ihr=>exact yE (yE (zBW t))
 | alt f n s vs p r ihp ihr=>exact yE ihp
theorem mem_no {α:Type} [DecidableEq α] {out l:List α} {x:α}:x∈zC no out l↔x∈out∨x∈l:=by rw[mem_insAll];simp[no]
theorem zYS {α:Type} [DecidableEq α] {vs out l:List α} {x:α}:x∈zC (fun y=>memb y vs) out l↔x∈out∨(x∈l/\x∉vs):=by
 rw[mem_insAll];simp[memb]
theorem zD1 (n:Int) (s:ByteArray) (t:Tp) (g:Cr):(Cr.node 1 n s t g).fv=[s]:=by simp[Cr.fv]
theorem jO {f n:Int} {s:ByteArray} {t:Tp} {g:Cr} {x:ByteArray} (h:f≠1):x∈(Cr.node f n s t g).fv↔x∈g.fv/\x∉(Cr.node f n s t g).names0:=by
 simp only[Cr.fv,if_neg h];rw[zYS];simp
theorem mem_fv_kid {p r:Cr} {x:ByteArray}:x∈(Cr.kid p r).fv↔x∈p.fv∨x∈r.fv:=mem_no
theorem mem_fv_bind {b:ByteArray} {t:Tp} {p r:Cr} {x:ByteArray}:x∈(Cr.bind b t p r).fv↔x∈p.fv∨x∈r.fv:=mem_no
theorem mem_fv_alt {f n:Int} {s:ByteArray} {vs:List ByteArray} {p r:Cr} {x:ByteArray}:x∈(Cr.alt f n s vs p r).fv↔(x∈p.fv/\x∉vs)∨x∈r.fv:=by
 simp only[Cr.fv];rw[mem_no,zYS];simp
theorem mem_tv_node {f n:Int} {s:ByteArray} {t:Tp} {g:Cr} {x:ByteArray}:x∈(Cr.node f n s t g).tv↔x∈fvT t∨(x∈g.tv/\¬(f=7/\x=s)):=by
 simp only[Cr.tv];rw[mem_insAll];simp only[Bool.and_eq_false_iff,decide_eq_false_iff_not,Decidable.not_and_iff_or_not]
theorem mem_tv_kid {p r:Cr} {x:ByteArray}:x∈(Cr.kid p r).tv↔x∈p.tv∨x∈r.tv:=mem_no
theorem mem_tv_bind {b:ByteArray} {t:Tp} {p r:Cr} {x:ByteArray}:x∈(Cr.bind b t p r).tv↔x∈fvT t∨x∈p.tv∨x∈r.tv:=by
 simp only[Cr.tv];rw[mem_no,mem_no,or_assoc]
theorem mem_tv_alt {f n:Int} {s:ByteArray} {vs:List ByteArray} {p r:Cr} {x:ByteArray}:x∈(Cr.alt f n s vs p r).tv↔x∈p.tv∨x∈r.tv:=mem_no
inductive DC where
 | nil
 | bv (i:Nat)
 | fr (s:ByteArray)
 | node (f n:Int) (s:ByteArray) (t:Db) (g:DC)
 | kid (p r:DC)
 | bind (t:Db) (p r:DC)
 | alt (f n:Int) (s:ByteArray) (k:Nat) (p r:DC)
def dbc:Cr->List ByteArray->List ByteArray->DC
 | .nil,_,_ => .nil
 | .node f n s t g,e,d=>if f=1 then (if memb s e then .bv (ixN e s) else .fr s)
   else .node f n (if f=5∨f=7 then .empty else s) (db t (if f=7 then s::d else d)) (dbc g ((Cr.node f n s t g).names0.reverse++e) (if f=7 then s::d else d))
 | .kid p r,e,d => .kid (dbc p e d) (dbc r e d)
 | .bind _ t p r,e,d => .bind (db t d) (dbc p e d) (dbc r e d)
 | .alt f n s vs p r,e,d => .alt f n s vs.length (dbc p (vs.reverse++e) d) (dbc r e d)
def sbD (σ:ByteArray->DC) (τ:ByteArray->Db):DC->DC
 | .nil => .nil
 | .bv i => .bv i
 | .fr s=>σ s
 | .node f n s t g => .node f n s (sb τ t) (sbD σ τ g)
 | .kid p r => .kid (sbD σ τ p) (sbD σ τ r)
 | .bind t p r => .bind (sb τ t) (sbD σ τ p) (sbD σ τ r)
 | .alt f n s k p r => .alt f n s k (sbD σ τ p) (sbD σ τ r)
theorem zNO (d:DC):sbD .fr .fr d=d:=by
 induction d with
 | node f n s t g ih=>simp only[sbD,zJZ,ih]
 | kid p r ihp ihr=>simp only[sbD,ihp,ihr]
 | bind t p r ihp ihr=>simp only[sbD,zJZ,ihp,ihr]
 | alt f n s k p r ihp ihr=>simp only[sbD,ihp,ihr]
 | _=>rfl
def zCO:Db->ByteArray->Prop
 | .fr s,x=>x=s
 | .app a b,x=>zCO a x∨zCO b x
 | .all a,x=>zCO a x
 | _,_=>False
def zCP:DC->ByteArray->Prop
 | .node _ _ _ t g,x=>zCO t x∨zCP g x
 | .kid p r,x=>zCP p x∨zCP r x
 | .bind t p r,x=>zCO t x∨zCP p x∨zCP r x
 | .alt _ _ _ _ p r,x=>zCP p x∨zCP r x
 | _,_=>False
def wS:DC->ByteArray->Nat
 | .fr s,x=>if x=s then 1 else 0
 | .node _ _ _ _ g,x=>wS g x
 | .kid p r,x=>wS p x+wS r x
 | .bind _ p r,x=>wS p x+wS r x
 | .alt _ _ _ _ p r,x=>wS p x+wS r x
 | _,_=>0
def szD:DC->Nat
 | .nil=>0
 | .bv _=>1
 | .fr _=>1
 | .node _ _ _ _ g=>1+szD g
 | .kid p r=>szD p+szD r
 | .bind _ p r=>szD p+szD r
 | .alt _ _ _ _ p r=>szD p+szD r
theorem zYI (t:Tp):∀(e:List ByteArray) (x:ByteArray),zCO (db t e) x↔x∈fv t/\x∉e:=by
 induction t with
 | var s =>
  intro e x;simp only[db,fv,List.mem_singleton];by_cases h:s∈e
  ·rw[if_pos (zS h)];simp only[zCO,false_iff,not_and];rintro rfl;simpa using h
  ·rw[if_neg (by rw[yM h];simp)];simp only[zCO];constructor
   ·rintro rfl;exact⟨rfl,h⟩
   ·exact fun h=>h.1
 | app a b iha ihb=>intro e x;simp only[db,zCO,iha,ihb,mem_fv_app];constructor<;>(intro h;rcases h with h|h<;>simp_all) ;
 | all s a ih=>intro e x;simp only[db,zCO,ih,mem_fv_all,List.mem_cons,not_or];constructor<;>(intro h;simp_all)
 | no=>intro e x;simp[db,zCO,fv]
 | mt n=>intro e x;simp[db,zCO,fv]
 | con s=>intro e x;simp[db,zCO,fv]
instance memDec (s:ByteArray) (l:List ByteArray):Decidable (s∈l):=decidable_of_iff (memb s l=true) memb_iff
def yO (φ:Cr->Cr) (τ:Tp->Tp) (ν:ByteArray->ByteArray) (α:List ByteArray->Cr->List ByteArray×Cr):Cr->Cr
 | .kid p r => .kid (φ p) (yO φ τ ν α r)
 | .bind x t p r => .bind (ν x) (τ t) (φ p) (yO φ τ ν α r)
 | .alt f n s vs p r => .alt f n s (α vs p).1 (α vs p).2 (yO φ τ ν α r)
 | c=>c
noncomputable def stF:Nat->Cr->ByteArray->Tp->Cr
 | k+1,.node f n s ty g,v,t =>
  if f=7 then
   if s=v∨v∉g.tv then .node f n s ty g
   else if s∈fvT t then .node f n (lett (ff (fvT t++g.tv))) ty (yO (fun p=>stF k (stF k p s (.var (lett (ff (fvT t++g.tv))))) v t) id id Prod.mk g)
   else .node f n s ty (yO (fun p=>stF k p v t) id id Prod.mk g)
  else .node f n s (sub ty [(v,t)]) (yO (fun p=>stF k p v t) (fun u=>sub u [(v,t)]) id (fun vs p=>(vs,stF k p v t)) g)
 | _,c,_,_=>c
noncomputable def rens (far:List ByteArray):List ByteArray->List ByteArray->List (ByteArray×ByteArray)
 | [],_=>[]
 | n::ns,tk=>if n∈far then (n,lett (ff tk))::rens far ns (tk++[lett (ff tk)]) else rens far ns tk
def nw:List (ByteArray×ByteArray)->ByteArray->ByteArray
 | [],n=>n
 | (a,z)::r,n=>if a=n then z else nw r n
noncomputable def plan (fr ns:List ByteArray) (x:ByteArray) (far:List ByteArray):Option (List (ByteArray×ByteArray)) :=
 if x∈fr/\x∉ns then some (rens far ns (fr++ns++far)) else none
abbrev vr (s:ByteArray):Cr := .node 1 0 s .no .nil
noncomputable def zJQ (φ:List (ByteArray×ByteArray)->Cr->Cr) (x:ByteArray) (far vs:List ByteArray) (p:Cr):List ByteArray×Cr:=match plan p.fv vs x far with
 | none=>(vs,p)
 | some rs=>(vs.map (nw rs),φ rs p)
noncomputable def sbF:Nat->Cr->ByteArray->Cr->Cr
 | k+1,.node f n s t g,x,b =>
  if f=1 then (if s=x then b else .node f n s t g)
  else if f=7 then
   if x∈(Cr.node f n s t g).fv then
    if s∈b.tv then .node f n (lett (ff (b.tv++g.tv))) t (yO (fun p=>sbF k (stF k p s (.var (lett (ff (b.tv++g.tv))))) x b) id id Prod.mk g)
    else .node f n s t (yO (fun p=>sbF k p x b) id id Prod.mk g)
   else .node f n s t g
  else match plan (g.parts0.flatMap Cr.fv) (Cr.node f n s t g).names0 x b.fv with
   | none => .node f n s t (yO id id id (zJQ (fun rs p=>sbF k (rs.foldl (fun p q=>sbF k p q.1 (vr q.2)) p) x b) x b.fv) g)
   | some rs => .node f n (if f=5 then nw rs s else s) t (yO (fun p=>sbF k (rs.foldl (fun p q=>sbF k p q.1 (vr q.2)) p) x b) id (nw rs) (zJQ (fun rs p=>sbF k (rs.foldl (fun p q=>sbF k p q.1 (vr q.2)) p) x b) x b.fv) g)
 | _,c,_,_=>c
section
variable {φ:Cr->Cr} {τ:Tp->Tp} {ν:ByteArray->ByteArray} {α:List ByteArray->Cr->List ByteArray×Cr}
theorem zHI (g:Cr):(yO φ τ ν α g).isN=g.isN:=by cases g<;>rfl
theorem zCV {g:Cr} (h:g.isN=false) (ho:g.Ok):(yO φ τ ν α g).kids=g.kids.map φ:=by
 induction g with
 | nil=>rfl
 | node=>cases h
 | kid p r _ ih=>simp only[yO,Cr.kids,List.map_cons,ih ho.2.1 ho.2.2.2]
 | bind x t p r _ ih=>simp only[yO,Cr.kids,ih ho.2.1 ho.2.2.2.2]
 | alt f n s vs p r _ ih=>simp only[yO,Cr.kids,ih ho.2.1 ho.2.2.2.2.2.2]
theorem qA {g:Cr} (h:g.isN=false) (ho:g.Ok):(yO φ τ ν α g).binds=g.binds.map fun b=>(ν b.1,τ b.2.1,φ b.2.2):=by
 induction g with
 | nil=>rfl
 | node=>cases h
 | kid p r _ ih=>simp only[yO,Cr.binds,ih ho.2.1 ho.2.2.2]
 | bind x t p r _ ih=>simp only[yO,Cr.binds,List.map_cons,ih ho.2.1 ho.2.2.2.2]
 | alt f n s vs p r _ ih=>simp only[yO,Cr.binds,ih ho.2.1 ho.2.2.2.2.2.2]
theorem zIR {g:Cr} (h:g.isN=false) (ho:g.Ok):(yO φ τ ν α g).alts=g.alts.map fun a=>(a.1,α a.2.1 a.2.2):=by
 induction g with
 | nil=>rfl
 | node=>cases h
 | kid p r _ ih=>simp only[yO,Cr.alts,ih ho.2.1 ho.2.2.2]
 | bind x t p r _ ih=>simp only[yO,Cr.alts,ih ho.2.1 ho.2.2.2.2]
 | alt f n s vs p r _ ih=>simp only[yO,Cr.alts,List.map_cons,ih ho.2.1 ho.2.2.2.2.2.2]
end
theorem Cr.Ok.kid {c p:Cr} (h:c.Ok) (hp:p∈c.kids):p.isN=true/\p.Ok:=by
 induction c with
 | nil=>cases hp
 | node f n s t g ih=>exact ih h.2.2.2.2.2.2.2 hp
 | kid q r _ ih =>
  simp only[Cr.kids,List.mem_cons] at hp;rcases hp with rfl|hp
  ·exact⟨h.1,h.2.2.1⟩
  ·exact ih h.2.2.2 hp
 | bind x t q r _ ih=>exact ih h.2.2.2.2 hp
 | alt f n s vs q r _ ih=>exact ih h.2.2.2.2.2.2 hp
theorem Cr.Ok.bind {c:Cr} {b:ByteArray×Tp×Cr} (h:c.Ok) (hp:b∈c.binds):b.2.2.isN=true/\b.2.2.Ok:=by
 induction c with
 | nil=>cases hp
 | node f n s t g ih=>exact ih h.2.2.2.2.2.2.2 hp
 | kid q r _ ih=>exact ih h.2.2.2 hp
 | bind x t q r _ ih =>
  simp only[Cr.binds,List.mem_cons] at hp;rcases hp with rfl|hp
  ·exact⟨h.1,h.2.2.2.1⟩
  ·exact ih h.2.2.2.2 hp
 | alt f n s vs q r _ ih=>exact ih h.2.2.2.2.2.2 hp
theorem Cr.Ok.alt {c:Cr} {a:(Int×Int×ByteArray)×List ByteArray×Cr} (h:c.Ok) (hp:a∈c.alts):a.2.2.isN=true/\a.2.2.Ok/\a.2.1.Nodup:=by
 induction c with
 | nil=>cases hp
 | node f n s t g ih=>exact ih h.2.2.2.2.2.2.2 hp
 | kid q r _ ih=>exact ih h.2.2.2 hp
 | bind x t q r _ ih=>exact ih h.2.2.2.2 hp
 | alt f n s vs q r _ ih =>
  simp only[Cr.alts,List.mem_cons] at hp;rcases hp with rfl|hp
  ·exact⟨h.1,h.2.2.2.2.2.1,h.2.2.2.2.1⟩
  ·exact ih h.2.2.2.2.2.2 hp
theorem zMX {φ:Cr->Cr} {τ:Tp->Tp} {ν:ByteArray->ByteArray} {α:List ByteArray->Cr->List ByteArray×Cr} {σ:ByteArray->DC} {υ:ByteArray->Db} {e e' d d':List ByteArray} {g:Cr} (h:g.isN=false) (ho:g.Ok)
  (hk:∀p∈g.kids,dbc (φ p) e' d'=sbD σ υ (dbc p e d)) (hb:∀b∈g.binds,dbc (φ b.2.2) e' d'=sbD σ υ (dbc b.2.2 e d)/\db (τ b.2.1) d'=sb υ (db b.2.1 d))
  (ha:∀a∈g.alts,(α a.2.1 a.2.2).1.length=a.2.1.length/\dbc (α a.2.1 a.2.2).2 ((α a.2.1 a.2.2).1.reverse++e') d'=sbD σ υ (dbc a.2.2 (a.2.1.reverse++e) d)) :
  dbc (yO φ τ ν α g) e' d'=sbD σ υ (dbc g e d):=by
 induction g with
 | nil=>rfl
 | node=>cases h
 | kid p r _ ih =>
  simp only[yO,dbc,sbD,Cr.kids,List.mem_cons,forall_eq_or_imp] at hk⊢;rw[hk.1,ih ho.2.1 ho.2.2.2 hk.2 hb ha]
 | bind x t p r _ ih =>
  simp only[yO,dbc,sbD,Cr.binds,List.mem_cons,forall_eq_or_imp] at hb⊢;rw[hb.1.1,hb.1.2,ih ho.2.1 ho.2.2.2.2 hk hb.2 ha]
 | alt f n s vs p r _ ih =>
  simp only[yO,dbc,sbD,Cr.alts,List.mem_cons,forall_eq_or_imp] at ha⊢;rw[ha.1.1,ha.1.2,ih ho.2.1 ho.2.2.2.2.2.2 hk hb ha.2]
theorem zN {f n:Int} {s:ByteArray} {t:Tp} {g:Cr} (h:(Cr.node f n s t g).Ok):g.isN=false/\g.Ok:=⟨h.1,h.2.2.2.2.2.2.2⟩
theorem zaA {g:Cr} (h:g.isN=false) (h1:g.kids=[]) (h2:g.binds=[]) (h3:g.alts=[]):g = .nil:=by
 cases g<;>simp_all [Cr.kids,Cr.binds,Cr.alts,Cr.isN]
theorem qR {g:Cr} (h:g.isN=false) (ho:g.Ok) (h1:g.kids.length=1) (h2:g.binds=[]) (h3:g.alts=[]):∃p,g = .kid p .nil/\p.isN=true/\p.Ok:=by
 cases g with
 | kid p r =>
  simp[Cr.kids,Cr.binds,Cr.alts] at h1 h2 h3;rw[zaA ho.2.1 h1 h2 h3];exact⟨p,rfl,ho.1,ho.2.2.1⟩
 | nil=>simp[Cr.kids] at h1
 | node=>cases h
 | bind=>simp[Cr.binds] at h2
 | alt=>simp[Cr.alts] at h3
theorem zR1 {n:Int} {s:ByteArray} {t:Tp} {g:Cr} (h:(Cr.node 7 n s t g).Ok):t = .no/\∃p,g = .kid p .nil/\p.isN=true/\p.Ok:=by
 refine⟨h.2.2.1 rfl,qR h.1 h.2.2.2.2.2.2.2 (by rw[h.2.2.2.1];rfl) ?_ ?_⟩
 ·have:=h.2.2.2.2.1;by_cases hb:g.binds=[];exact hb;exact absurd (this hb) (by decide)
 ·have:=h.2.2.2.2.2.1;by_cases hb:g.alts=[];exact hb;exact absurd (this hb) (by decide)
theorem zXO (d : Db) (τ : ByteArray -> Db) (x : ByteArray) : zCO (sb τ d) x ↔ ∃ a, zCO d a /\ zCO (τ a) x := by
  induction d with
  | fr s => simp [sb, zCO]
  | app a b iha ihb => simp only [sb, zCO, iha, ihb]; constructor
                       · rintro (⟨a, h1, h2⟩ | ⟨a, h1, h2⟩); exact ⟨a, .inl h1, h2⟩; exact ⟨a, .inr h1, h2⟩
                       · rintro ⟨a, h1 | h1, h2⟩; exact .inl ⟨a, h1, h2⟩; exact .inr ⟨a, h1, h2⟩
  | all a ih => simp only [sb, zCO, ih]
  | _ => simp [sb, zCO]
theorem zaU (d : DC) (τ : ByteArray -> Db) (x : ByteArray) : zCP (sbD .fr τ d) x ↔ ∃ a, zCP d a /\ zCO (τ a) x := by
  induction d with
  | node f n s t g ih => simp only [sbD, zCP, ih, zXO]; constructor
                         · rintro (⟨a, h1, h2⟩ | ⟨a, h1, h2⟩); exact ⟨a, .inl h1, h2⟩; exact ⟨a, .inr h1, h2⟩
                         · rintro ⟨a, h1 | h1, h2⟩; exact .inl ⟨a, h1, h2⟩; exact .inr ⟨a, h1, h2⟩
  | kid p r ihp ihr => simp only [sbD, zCP, ihp, ihr]; constructor
                       · rintro (⟨a, h1, h2⟩ | ⟨a, h1, h2⟩); exact ⟨a, .inl h1, h2⟩; exact ⟨a, .inr h1, h2⟩
                       · rintro ⟨a, h1 | h1, h2⟩; exact .inl ⟨a, h1, h2⟩; exact .inr ⟨a, h1, h2⟩
  | bind t p r ihp ihr => simp only [sbD, zCP, ihp, ihr, zXO]; constructor
                          · rintro (⟨a, h1, h2⟩ | ⟨a, h1, h2⟩ | ⟨a, h1, h2⟩); exact ⟨a, .inl h1, h2⟩; exact ⟨a, .inr (.inl h1), h2⟩; exact ⟨a, .inr (.inr h1), h2⟩
                          · rintro ⟨a, h1 | h1 | h1, h2⟩; exact .inl ⟨a, h1, h2⟩; exact .inr (.inl ⟨a, h1, h2⟩); exact .inr (.inr ⟨a, h1, h2⟩)
  | alt f n s k p r ihp ihr => simp only [sbD, zCP, ihp, ihr]; constructor
                               · rintro (⟨a, h1, h2⟩ | ⟨a, h1, h2⟩); exact ⟨a, .inl h1, h2⟩; exact ⟨a, .inr h1, h2⟩
                               · rintro ⟨a, h1 | h1, h2⟩; exact .inl ⟨a, h1, h2⟩; exact .inr ⟨a, h1, h2⟩
  | _ => simp [sbD, zCP]
theorem zKX (t:Tp):sub t []=t:=by
 induction t with
 | all s a ih=>simp[sub,kept,caught,memb,ih]
 | app a b iha ihb=>simp only[sub,iha,ihb]
 | var s=>simp[sub,look]
 | _=>rfl
def AgT (S:List ByteArray) (ps:Env') (d d':List ByteArray) (τ:ByteArray->Db):Prop :=
 ∀a∈S,(a∈d/\∃a',yV a ps = .var a'/\a'∈d'/\ixN d' a'=ixN d a)∨(a∉d/\(∀x∈fv (yV a ps),x∉d')/\τ a=db (yV a ps) [])
theorem AgT.mono {S S':List ByteArray} {ps:Env'} {d d':List ByteArray} {τ:ByteArray->Db} (h:AgT S ps d d' τ) (hs:∀a∈S',a∈S):AgT S' ps d d' τ:=fun a ha=>h a (hs a ha)
theorem AgT.subD {t:Tp} {ps:Env'} {d d':List ByteArray} {τ:ByteArray->Db} (h:AgT (fv t) ps d d' τ):db (sub t ps) d'=sb τ (db t d):=z5C t ps d d' τ h
theorem z2P (c:Cr):∀(e d d':List ByteArray) (τ:ByteArray->Db),c.Ok->AgT c.tv [] d d' τ->dbc c e d'=sbD .fr τ (dbc c e d):=by
 induction c with
 | nil=>intro e d d' τ _ _;rfl
 | node f n s t g ih =>
  intro e d d' τ ho h;simp only[dbc];by_cases h1:f=1
  ·rw[if_pos h1,if_pos h1];split<;>rfl
  ·rw[if_neg h1,if_neg h1];simp only[sbD];by_cases h7:f=7
   ·subst h7;have ht:t = .no:=ho.2.2.1 rfl;subst ht;rw[if_pos rfl,if_pos rfl];have hsub:AgT g.tv [] (s::d) (s::d') τ:=fun a ha=>by
     by_cases has:a=s
     ·subst has;exact .inl ⟨by simp,a,rfl,by simp,by simp[ixN]⟩
     ·rcases h a (mem_tv_node.2 (.inr ⟨ha,fun q=>has q.2⟩)) with⟨q1,a',q2,q3,q4⟩|⟨q1,q2,q3⟩
      ·have e1:a'=a:=by have:Tp.var a=Tp.var a':=q2;injection this with this;exact this.symm
       subst e1;exact .inl ⟨by simp[q1],a',rfl,by simp[q3],by rw[zBC (Ne.symm has),zBC (Ne.symm has),q4]⟩
      ·refine .inr ⟨by simp[has,q1],fun x hx=>?_,q3⟩;have hx':x=a:=by simpa[yV,look,fv] using hx
       subst hx';simp only[List.mem_cons,not_or];exact⟨has,q2 x hx⟩
    rw[ih _ _ _ _ (zN ho).2 hsub];rfl
   ·rw[if_neg h7,if_neg h7];have h2:AgT (fv t) [] d d' τ:=h.mono fun a ha=>mem_tv_node.2 (.inl ha);have:=h2.subD;rw[zKX] at this;rw[this,ih _ _ _ _ (zN ho).2 (h.mono fun a ha=>mem_tv_node.2 (.inr ⟨ha,fun q=>h7 q.1⟩))]
 | kid p r ihp ihr =>
  intro e d d' τ ho h;simp only[dbc,sbD];rw[ihp _ _ _ _ ho.2.2.1 (h.mono fun a ha=>mem_tv_kid.2 (.inl ha)),ihr _ _ _ _ ho.2.2.2 (h.mono fun a ha=>mem_tv_kid.2 (.inr ha))]
 | bind x t p r ihp ihr =>
  intro e d d' τ ho h;simp only[dbc,sbD];have h2:AgT (fv t) [] d d' τ:=h.mono fun a ha=>mem_tv_bind.2 (.inl ha);have:=h2.subD;rw[zKX] at this;rw[this,ihp _ _ _ _ ho.2.2.2.1 (h.mono fun a ha=>mem_tv_bind.2 (.inr (.inl ha))),ihr _ _ _ _ ho.2.2.2.2 (h.mono fun a ha=>mem_tv_bind.2 (.inr (.inr ha)))]
 | alt f n s vs p r ihp ihr =>
  intro e d d' τ ho h;simp only[dbc,sbD];rw[ihp _ _ _ _ ho.2.2.2.2.2.1 (h.mono fun a ha=>mem_tv_alt.2 (.inl ha)),ihr _ _ _ _ ho.2.2.2.2.2.2 (h.mono fun a ha=>mem_tv_alt.2 (.inr ha))]
theorem zHC (k:Nat) (c:Cr) (v:ByteArray) (t:Tp):(stF k c v t).isN=c.isN:=by
 cases k with
 | zero=>cases c<;>rfl
 | succ k=>cases c<;>simp only[stF]<;>first|rfl|(split<;>(try split)<;>(try split)<;>rfl)
section
variable {φ:Cr->Cr} {τ:Tp->Tp} {ν:ByteArray->ByteArray} {α:List ByteArray->Cr->List ByteArray×Cr}
theorem zXA {g:Cr} (h:g.isN=false) (ho:g.Ok) (hk:∀p∈g.kids,(φ p).sz=p.sz) (hb:∀b∈g.binds,(φ b.2.2).sz=b.2.2.sz) (ha:∀a∈g.alts,(α a.2.1 a.2.2).2.sz=a.2.2.sz):(yO φ τ ν α g).sz=g.sz:=by
 induction g with
 | nil=>rfl
 | node=>cases h
 | kid p r _ ih =>
  simp only[yO,Cr.sz,Cr.kids,List.mem_cons,forall_eq_or_imp] at hk⊢;rw[hk.1,ih ho.2.1 ho.2.2.2 hk.2 hb ha]
 | bind x t p r _ ih =>
  simp only[yO,Cr.sz,Cr.binds,List.mem_cons,forall_eq_or_imp] at hb⊢;rw[hb.1,ih ho.2.1 ho.2.2.2.2 hk hb.2 ha]
 | alt f n s vs p r _ ih =>
  simp only[yO,Cr.sz,Cr.alts,List.mem_cons,forall_eq_or_imp] at ha⊢;rw[ha.1,ih ho.2.1 ho.2.2.2.2.2.2 hk hb ha.2]
theorem z9V {g:Cr} (h:g.isN=false) (ho:g.Ok) (hk:∀p∈g.kids,(φ p).fv=p.fv) (hb:∀b∈g.binds,(φ b.2.2).fv=b.2.2.fv) (ha:∀a∈g.alts,(α a.2.1 a.2.2).2.fv=a.2.2.fv/\(α a.2.1 a.2.2).1=a.2.1):(yO φ τ ν α g).fv=g.fv:=by
 induction g with
 | nil=>rfl
 | node=>cases h
 | kid p r _ ih =>
  simp only[yO,Cr.fv,Cr.kids,List.mem_cons,forall_eq_or_imp] at hk⊢;rw[hk.1,ih ho.2.1 ho.2.2.2 hk.2 hb ha]
 | bind x t p r _ ih =>
  simp only[yO,Cr.fv,Cr.binds,List.mem_cons,forall_eq_or_imp] at hb⊢;rw[hb.1,ih ho.2.1 ho.2.2.2.2 hk hb.2 ha]
 | alt f n s vs p r _ ih =>
  simp only[yO,Cr.fv,Cr.alts,List.mem_cons,forall_eq_or_imp] at ha⊢;rw[ha.1.1,ha.1.2,ih ho.2.1 ho.2.2.2.2.2.2 hk hb ha.2]
theorem zW9 {g:Cr} (h:g.isN=false) (ho:g.Ok) (hk:∀p∈g.kids,(φ p).Ok/\(φ p).isN=true) (hb:∀b∈g.binds,(φ b.2.2).Ok/\(φ b.2.2).isN=true) (ha:∀a∈g.alts,(α a.2.1 a.2.2).2.Ok/\(α a.2.1 a.2.2).2.isN=true/\(α a.2.1 a.2.2).1.Nodup):(yO φ τ ν α g).Ok:=by
 induction g with
 | nil=>trivial
 | node=>cases h
 | kid p r _ ih =>
  simp only[yO,Cr.kids,List.mem_cons,forall_eq_or_imp] at hk⊢;exact⟨hk.1.2,by rw[zHI];exact ho.2.1,hk.1.1,ih ho.2.1 ho.2.2.2 hk.2 hb ha⟩
 | bind x t p r _ ih =>
  simp only[yO,Cr.binds,List.mem_cons,forall_eq_or_imp] at hb⊢;exact⟨hb.1.2,by rw[zHI];exact ho.2.1,by rw[zCV ho.2.1 ho.2.2.2.2,ho.2.2.1];rfl,hb.1.1,ih ho.2.1 ho.2.2.2.2 hk hb.2 ha⟩
 | alt f n s vs p r _ ih =>
  simp only[yO,Cr.alts,List.mem_cons,forall_eq_or_imp] at ha⊢;exact⟨ha.1.2.1,by rw[zHI];exact ho.2.1,by rw[zCV ho.2.1 ho.2.2.2.2.2.2,ho.2.2.1];rfl,by rw[qA ho.2.1 ho.2.2.2.2.2.2,ho.2.2.2.1];rfl,ha.1.2.2,ha.1.1,ih ho.2.1 ho.2.2.2.2.2.2 hk hb ha.2⟩
theorem zYH {f n:Int} {s s':ByteArray} {t t':Tp} {g:Cr} (ho:(Cr.node f n s t g).Ok) (ht:t = .no->t' = .no) (hm:(yO φ τ ν α g).Ok) (hn:((g.binds.map (·.1)).map ν).Nodup):(Cr.node f n s' t' (yO φ τ ν α g)).Ok:=by
 obtain⟨h1,h2,h3,h4,h5,h6,h7,h8⟩:=ho;refine⟨by rw[zHI];exact h1,fun hf=>⟨ht (h2 hf).1,by rw[(h2 hf).2];rfl⟩,fun hf=>ht (h3 hf),by rw[zCV h1 h8,List.length_map];exact h4,fun hb=>h5 fun q=>hb ?_,fun hb=>h6 fun q=>hb ?_,?_,hm⟩
 ·rw[qA h1 h8,q];rfl
 ·rw[zIR h1 h8,q];rfl
 ·rw[qA h1 h8,List.map_map];rw[List.map_map] at hn;exact hn
end
theorem zFF (k:Nat):∀(c:Cr) (v:ByteArray) (t:Tp),c.Ok->(stF k c v t).sz=c.sz/\(stF k c v t).fv=c.fv/\(stF k c v t).Ok:=by
 induction k with
 | zero=>intro c v t ho;cases c<;>exact⟨rfl,rfl,ho⟩
 | succ k ih =>
  intro c v t ho;cases c with
  | node f n s ty g =>
   obtain⟨hg,hgo⟩:=zN ho;simp only[stF];have gen:∀(φ:Cr->Cr) (τ:Tp->Tp) (α:List ByteArray->Cr->List ByteArray×Cr) (s':ByteArray) (ty':Tp),(ty = .no->ty' = .no)->(f=5->s'=s)->(f=1->s'=s)->(∀p,p.isN=true->p.Ok->(φ p).sz=p.sz/\(φ p).fv=p.fv/\(φ p).Ok/\(φ p).isN=true)->(∀vs p,p.isN=true->p.Ok->(α vs p).1=vs/\(α vs p).2.sz=p.sz/\(α vs p).2.fv=p.fv/\(α vs p).2.Ok/\(α vs p).2.isN=true) ->
     (Cr.node f n s' ty' (yO φ τ id α g)).sz=(Cr.node f n s ty g).sz/\(Cr.node f n s' ty' (yO φ τ id α g)).fv=(Cr.node f n s ty g).fv/\(Cr.node f n s' ty' (yO φ τ id α g)).Ok:=fun φ τ α s' ty' hty h5 h1 hφ hα=>by
    have hk:∀p∈g.kids,_:=fun p hp=>hφ p (hgo.kid hp).1 (hgo.kid hp).2;have hb:∀b∈g.binds,_:=fun b hb=>hφ b.2.2 (hgo.bind hb).1 (hgo.bind hb).2;have ha:∀a∈g.alts,_:=fun a ha=>hα a.2.1 a.2.2 (hgo.alt ha).1 (hgo.alt ha).2.1;refine⟨?_,?_,?_⟩
    ·simp only[Cr.sz];rw[zXA hg hgo (fun p hp=>(hk p hp).1) (fun b hp=>(hb b hp).1) (fun a hp=>(ha a hp).2.1)]
    ·have e1:(Cr.node f n s' ty' (yO φ τ id α g)).names0=(Cr.node f n s ty g).names0:=by
      simp only[Cr.names0,Cr.own,Cr.binds];rw[qA hg hgo,List.map_map];by_cases hf:f=5
      ·rw[if_pos hf,if_pos hf,h5 hf];rfl
      ·rw[if_neg hf,if_neg hf];rfl
     simp only[Cr.fv,e1];rw[z9V hg hgo (fun p hp=>(hk p hp).2.1) (fun b hp=>(hb b hp).2.1) (fun a hp=>⟨(ha a hp).2.2.1,(ha a hp).1⟩)];by_cases hf:f=1
     ·rw[if_pos hf,if_pos hf,h1 hf]
     ·rw[if_neg hf,if_neg hf]
    ·refine zYH ho hty (zW9 hg hgo (fun p hp=>(hk p hp).2.2) (fun b hp=>(hb b hp).2.2) (fun a hp=>⟨(ha a hp).2.2.2.1,(ha a hp).2.2.2.2,by rw[(ha a hp).1];exact (hgo.alt hp).2.2⟩)) (by rw[List.map_id];exact ho.2.2.2.2.2.2.1)
   have one:∀v t p,p.isN=true->p.Ok->(stF k p v t).sz=p.sz/\(stF k p v t).fv=p.fv/\(stF k p v t).Ok/\(stF k p v t).isN=true:=fun v t p hn hp=>⟨(ih p v t hp).1,(ih p v t hp).2.1,(ih p v t hp).2.2,by rw[zHC];exact hn⟩
   by_cases h7:f=7
   ·rw[if_pos h7];split
    ·exact⟨rfl,rfl,ho⟩
    split
    ·refine gen _ _ _ _ _ id (fun h=>by omega) (fun h=>by omega) (fun p hn hp=>?_) (fun vs p hn hp=>⟨rfl,rfl,rfl,hp,hn⟩);obtain⟨q1,q2,q3,q4⟩:=one s (.var (lett (ff (fvT t++g.tv)))) p hn hp;obtain⟨r1,r2,r3,r4⟩:=one v t _ q4 q3;exact⟨r1.trans q1,r2.trans q2,r3,r4⟩
    ·exact gen _ _ _ _ _ id (fun h=>rfl) (fun h=>rfl) (fun p hn hp=>one v t p hn hp) (fun vs p hn hp=>⟨rfl,rfl,rfl,hp,hn⟩)
   ·rw[if_neg h7];exact gen _ _ _ _ _ (fun h=>by rw[h];rfl) (fun h=>rfl) (fun h=>rfl) (fun p hn hp=>one v t p hn hp) (fun vs p hn hp=>⟨rfl,one v t p hn hp⟩)
  | _=>exact⟨rfl,rfl,ho⟩
theorem z7A {p:Cr}:(Cr.kid p .nil).sz=p.sz:=by simp[Cr.sz]
theorem zRB {p:Cr}:(Cr.kid p .nil).tv=p.tv:=rfl
theorem zc1 {p:Cr}:(Cr.kid p .nil).fv=p.fv:=rfl
theorem zHH (c:Cr):∀(e d:List ByteArray) (x:ByteArray),c.Ok->(zCP (dbc c e d) x↔x∈c.tv/\x∉d):=by
 induction c with
 | nil=>intro e d x _;simp[dbc,zCP,Cr.tv]
 | node f n s t g ih =>
  intro e d x ho;simp only[dbc];by_cases h1:f=1
  ·obtain⟨ht,hg⟩:=ho.2.1 h1;subst ht;subst hg;subst h1;rw[if_pos rfl];have:x∉(Cr.node 1 n s .no .nil).tv:=by rw[mem_tv_node];simp[fv,Cr.tv,fvT]
   split<;>simp[zCP,this]
  ·rw[if_neg h1];simp only[zCP,zYI,ih _ _ _ (zN ho).2,mem_tv_node,fvT];by_cases h7:f=7
   ·subst h7;have ht:t = .no:=ho.2.2.1 rfl;subst ht;simp only[if_pos,List.mem_cons,not_or,fv,List.not_mem_nil,false_and,false_or,true_and];constructor
    ·rintro⟨q1,q2,q3⟩;exact⟨⟨q1,q2⟩,q3⟩
    ·rintro⟨⟨q1,q2⟩,q3⟩;exact⟨q1,q2,q3⟩
   ·simp only[if_neg h7,h7,false_and,not_false_eq_true,and_true];constructor
    ·rintro (⟨q1,q2⟩|⟨q1,q2⟩);exact⟨.inl q1,q2⟩;exact⟨.inr q1,q2⟩
    ·rintro⟨q1|q1,q2⟩;exact .inl ⟨q1,q2⟩;exact .inr ⟨q1,q2⟩
 | kid p r ihp ihr =>
  intro e d x ho;simp only[dbc,zCP,ihp _ _ _ ho.2.2.1,ihr _ _ _ ho.2.2.2,mem_tv_kid];constructor
  ·rintro (⟨q1,q2⟩|⟨q1,q2⟩);exact⟨.inl q1,q2⟩;exact⟨.inr q1,q2⟩
  ·rintro⟨q1|q1,q2⟩;exact .inl ⟨q1,q2⟩;exact .inr ⟨q1,q2⟩
 | bind y t p r ihp ihr =>
  intro e d x ho;simp only[dbc,zCP,zYI,ihp _ _ _ ho.2.2.2.1,ihr _ _ _ ho.2.2.2.2,mem_tv_bind,fvT];constructor
  ·rintro (⟨q1,q2⟩|⟨q1,q2⟩|⟨q1,q2⟩);exact⟨.inl q1,q2⟩;exact⟨.inr (.inl q1),q2⟩;exact⟨.inr (.inr q1),q2⟩
  ·rintro⟨q1|q1|q1,q2⟩;exact .inl ⟨q1,q2⟩;exact .inr (.inl ⟨q1,q2⟩);exact .inr (.inr ⟨q1,q2⟩)
 | alt f n s vs p r ihp ihr =>
  intro e d x ho;simp only[dbc,zCP,ihp _ _ _ ho.2.2.2.2.2.1,ihr _ _ _ ho.2.2.2.2.2.2,mem_tv_alt];constructor
  ·rintro (⟨q1,q2⟩|⟨q1,q2⟩);exact⟨.inl q1,q2⟩;exact⟨.inr q1,q2⟩
  ·rintro⟨q1|q1,q2⟩;exact .inl ⟨q1,q2⟩;exact .inr ⟨q1,q2⟩
theorem zA9 (n:Int) (s:ByteArray) (p:Cr) (e d:List ByteArray):dbc (.node 7 n s .no (.kid p .nil)) e d = .node 7 n .empty .no (.kid (dbc p e (s::d)) .nil):=by
 show (if (7:Int)=1 then _ else _)=_;rw[if_neg (by decide)]
 rfl
theorem zBO (a v:ByteArray) (t:Tp):yV a [(v,t)]=if v=a then t else .var a:=by
 simp only[yV,look];split<;>rfl
theorem zXH (a x:ByteArray):x∈fv (.var a)↔x=a:=by simp[fv]
theorem AgT.renew {S:List ByteArray} {s z:ByteArray} {d:List ByteArray} (hz:z∉S):AgT S [(s,.var z)] (s::d) (z::d) .fr:=fun a ha=>by
 rw[zBO];have hza:z≠a:=fun h=>hz (h ▸ ha);by_cases has:s=a
 ·subst has;rw[if_pos rfl];exact .inl ⟨by simp,z,rfl,by simp,by simp[ixN]⟩
 ·rw[if_neg has];by_cases had:a∈d
  ·exact .inl ⟨List.mem_cons_of_mem _ had,a,rfl,List.mem_cons_of_mem _ had,by rw[zBC hza,zBC has]⟩
  ·refine .inr ⟨fun h=>by rcases List.mem_cons.1 h with h|h;exact has h.symm;exact had h,fun x hx=>?_,by simp[db,memb]⟩;rw[zXH] at hx;subst hx;exact fun h=>by rcases List.mem_cons.1 h with h|h;exact hza h.symm;exact had h
theorem AgT.under {S S0:List ByteArray} {v z:ByteArray} {t:Tp} {d d':List ByteArray} {τ:ByteArray->Db} (h:AgT S0 [(v,t)] d d' τ) (hz:z≠v) (hzt:z∉fv t) (hS:∀a∈S,a=z∨(a≠z/\a∈S0)):AgT S [(v,t)] (z::d) (z::d') τ:=fun a ha=>by
 rcases hS a ha with rfl|⟨haz,ha0⟩
 ·rw[zBO,if_neg (Ne.symm hz)];exact .inl ⟨by simp,a,rfl,by simp,by simp[ixN]⟩
 ·have hn:∀x∈fv (yV a [(v,t)]),x≠z:=fun x hx=>by
   rw[zBO] at hx;split at hx
   ·exact fun q=>hzt (q ▸ hx)
   ·rw[zXH] at hx;subst hx;exact haz
  rcases h a ha0 with⟨q1,a',q2,q3,q4⟩|⟨q1,q2,q3⟩
  ·have:a'≠z:=hn a' (by rw[q2];simp[fv]);exact .inl ⟨by simp[q1],a',q2,by simp[q3],by rw[zBC (Ne.symm this),zBC (Ne.symm haz),q4]⟩
  ·exact .inr ⟨by simp[haz,q1],fun x hx=>by simp only[List.mem_cons,not_or];exact⟨hn x hx,q2 x hx⟩,q3⟩
theorem tvk {g:Cr} (hg:g.isN=false) (hgo:g.Ok):∀p∈g.kids,∀a∈p.tv,a∈g.tv:=by
 induction g with
 | nil=>simp[Cr.kids]
 | node=>cases hg
 | kid q r _ ihr =>
  simp only[Cr.kids,List.mem_cons,forall_eq_or_imp];exact⟨fun a ha=>mem_tv_kid.2 (.inl ha),fun p hp a ha=>mem_tv_kid.2 (.inr (ihr hgo.2.1 hgo.2.2.2 p hp a ha))⟩
 | bind x t q r _ ihr=>exact fun p hp a ha=>mem_tv_bind.2 (.inr (.inr (ihr hgo.2.1 hgo.2.2.2.2 p hp a ha)))
 | alt f n s vs q r _ ihr=>exact fun p hp a ha=>mem_tv_alt.2 (.inr (ihr hgo.2.1 hgo.2.2.2.2.2.2 p hp a ha))
theorem tvb {g:Cr} (hg:g.isN=false) (hgo:g.Ok):∀b∈g.binds,(∀a∈b.2.2.tv,a∈g.tv)/\(∀a∈fv b.2.1,a∈g.tv):=by
 induction g with
 | nil=>simp[Cr.binds]
 | node=>cases hg
 | kid q r _ ihr=>exact fun b hb=>⟨fun a ha=>mem_tv_kid.2 (.inr ((ihr hgo.2.1 hgo.2.2.2 b hb).1 a ha)),fun a ha=>mem_tv_kid.2 (.inr ((ihr hgo.2.1 hgo.2.2.2 b hb).2 a ha))⟩
 | bind x t q r _ ihr =>
  simp only[Cr.binds,List.mem_cons,forall_eq_or_imp];exact⟨⟨fun a ha=>mem_tv_bind.2 (.inr (.inl ha)),fun a ha=>mem_tv_bind.2 (.inl ha)⟩,fun b hb=>⟨fun a ha=>mem_tv_bind.2 (.inr (.inr ((ihr hgo.2.1 hgo.2.2.2.2 b hb).1 a ha))),fun a ha=>mem_tv_bind.2 (.inr (.inr ((ihr hgo.2.1 hgo.2.2.2.2 b hb).2 a ha)))⟩⟩
 | alt f n s vs q r _ ihr=>exact fun b hb=>⟨fun a ha=>mem_tv_alt.2 (.inr ((ihr hgo.2.1 hgo.2.2.2.2.2.2 b hb).1 a ha)),fun a ha=>mem_tv_alt.2 (.inr ((ihr hgo.2.1 hgo.2.2.2.2.2.2 b hb).2 a ha))⟩
theorem tva {g:Cr} (hg:g.isN=false) (hgo:g.Ok):∀b∈g.alts,∀a∈b.2.2.tv,a∈g.tv:=by
 induction g with
 | nil=>simp[Cr.alts]
 | node=>cases hg
 | kid q r _ ihr=>exact fun b hb a ha=>mem_tv_kid.2 (.inr (ihr hgo.2.1 hgo.2.2.2 b hb a ha))
 | bind x t q r _ ihr=>exact fun b hb a ha=>mem_tv_bind.2 (.inr (.inr (ihr hgo.2.1 hgo.2.2.2.2 b hb a ha)))
 | alt f n s vs q r _ ihr =>
  simp only[Cr.alts,List.mem_cons,forall_eq_or_imp];exact⟨fun a ha=>mem_tv_alt.2 (.inl ha),fun b hb a ha=>mem_tv_alt.2 (.inr (ihr hgo.2.1 hgo.2.2.2.2.2.2 b hb a ha))⟩
theorem zW5 (k : Nat) : ∀ (c : Cr) (v : ByteArray) (t : Tp) (e d d' : List ByteArray) (τ : ByteArray -> Db), c.Ok -> c.isN = true -> c.sz <= k -> AgT c.tv [(v, t)] d d' τ -> dbc (stF k c v t) e d' = sbD .fr τ (dbc c e d) := by
  induction k with
  | zero => intro c v t e d d' τ ho hn hk; cases c <;> first | (cases hn; done) | (simp [Cr.sz] at hk; done) | skip
            all_goals (simp only [Cr.sz] at hk; omega)
  | succ k ih =>
    intro c v t e d d' τ ho hn hk h;cases c with
    | node f n s ty g =>
      obtain ⟨hg, hgo⟩ := zN ho;have hkg : g.sz <= k := by simp only [Cr.sz] at hk; omega
      simp only [stF];by_cases h7 : f = 7
      · subst h7
        obtain ⟨hty, p, rfl, hpn, hpo⟩ := zR1 ho;subst hty;rw [z7A] at hkg;rw [if_pos rfl, zRB];have htv : ∀ a, a ∈ (Cr.node 7 n s .no (.kid p .nil)).tv ↔ a ∈ p.tv /\ a ≠ s := fun a => by rw [mem_tv_node, zRB]; simp [fv, fvT]
        have names : ∀ (p' : Cr) (z : ByteArray), (Cr.node 7 n z .no (.kid p' .nil)).names0.reverse ++ e = e := fun p' z => rfl;split
        · rename_i hs
          refine z2P _ e d d' τ ho fun a ha => ?_;have hva : a ≠ v := fun hav => by
            subst hav;have := (htv a).1 ha;rcases hs with hs | hs
            · exact this.2 hs.symm
            · exact hs this.1
          have := h a ha;rw [zBO, if_neg (Ne.symm hva)] at this;exact this
        · rename_i hs
          simp only [not_or, Decidable.not_not] at hs;split
          · rename_i hst
            obtain ⟨z, hz⟩ : ∃ z, z = lett (ff (fvT t ++ p.tv)) := ⟨_, rfl⟩
            have hnew : z ∉ fvT t ++ p.tv := hz ▸ zBA _;simp only [List.mem_append, not_or] at hnew;rw [<- hz];obtain ⟨q1, q2, q3⟩ := zFF k p s (.var z) hpo;have qn : (stF k p s (.var z)).isN = true := by rw [zHC]; exact hpn
            simp only [yO];rw [zA9, zA9];simp only [sbD];have e1 : dbc (stF k p s (.var z)) e (z :: d) = dbc p e (s :: d) := by
              rw [ih p s (.var z) e (s :: d) (z :: d) .fr hpo hpn hkg (AgT.renew hnew.2), zNO]
            have e1' : dbc (stF k p s (.var z)) [] [] = sbD .fr (fun y => if y = s then .fr z else .fr y) (dbc p [] []) := ih p s (.var z) [] [] [] _ hpo hpn hkg fun a ha => .inr ⟨by simp, fun x hx => by simp, by
              rw [zBO];by_cases has : s = a
              · rw [if_pos has, if_pos has.symm]; simp [db, memb]
              · rw [if_neg has, if_neg (Ne.symm has)]; simp [db, memb]⟩
            have htv1 : ∀ a ∈ (stF k p s (.var z)).tv, a = z ∨ (a ≠ z /\ a ∈ (Cr.node 7 n s .no (.kid p .nil)).tv) := fun a ha => by
              have := (zHH _ [] [] a q3).2 ⟨ha, by simp⟩;rw [e1', zaU] at this;obtain ⟨b, hb1, hb2⟩ := this;have hbp := ((zHH p [] [] b hpo).1 hb1).1;by_cases hbs : b = s
              · rw [if_pos hbs] at hb2; exact .inl hb2
              · rw [if_neg hbs] at hb2
                have : a = b := hb2;subst this;exact .inr ⟨fun q => hnew.2 (q ▸ hbp), (htv a).2 ⟨hbp, hbs⟩⟩
            rw [ih _ v t e (z :: d) (z :: d') τ q3 qn (by rw [q1]; exact hkg) (h.under (fun q => hnew.2 (q ▸ hs.2)) hnew.1 htv1), e1]
            rfl
          · rename_i hst
            simp only [yO];rw [zA9, zA9];simp only [sbD];rw [ih p v t e (s :: d) (s :: d') τ hpo hpn hkg (h.under hs.1 hst fun a ha => by
              by_cases has : a = s
              · exact .inl has
              · exact .inr ⟨has, (htv a).2 ⟨ha, has⟩⟩)]
            rfl
      · rw [if_neg h7]
        have hn0 : (Cr.node f n s (sub ty [(v, t)]) (yO (fun p => stF k p v t) (fun u => sub u [(v, t)]) id (fun vs p => (vs, stF k p v t)) g)).names0 = (Cr.node f n s ty g).names0 := by
          simp only [Cr.names0, Cr.own, Cr.binds];rw [qA hg hgo, List.map_map]; rfl
        simp only [dbc];by_cases h1 : f = 1
        · rw [if_pos h1, if_pos h1]; split <;> rfl
        · rw [if_neg h1, if_neg h1, hn0, if_neg h7, if_neg h7]
          simp only [sbD];have hall : ∀ a, a ∈ fv ty ∨ a ∈ g.tv -> a ∈ (Cr.node f n s ty g).tv := fun a ha => mem_tv_node.2 (ha.imp id fun q => ⟨q, fun q => h7 q.1⟩);rw [AgT.subD (t := ty) (h.mono fun a ha => hall a (.inl ha))];rw [zMX (σ := .fr) (υ := τ) (e := (Cr.node f n s ty g).names0.reverse ++ e) (d := d) hg hgo]
          · intro p hp
            have := zBF hp;exact ih p v t _ d d' τ (hgo.kid hp).2 (hgo.kid hp).1 (by omega) (h.mono fun a ha => hall a (.inr (tvk hg hgo p hp a ha)))
          · intro b hb
            have := zCF hb;exact ⟨ih b.2.2 v t _ d d' τ (hgo.bind hb).2 (hgo.bind hb).1 (by omega) (h.mono fun a ha => hall a (.inr ((tvb hg hgo b hb).1 a ha))), AgT.subD (h.mono fun a ha => hall a (.inr ((tvb hg hgo b hb).2 a ha)))⟩
          · intro a ha
            have := zEH ha;exact ⟨rfl, ih a.2.2 v t _ d d' τ (hgo.alt ha).2.1 (hgo.alt ha).1 (by omega) (h.mono fun x hx => hall x (.inr (tva hg hgo a ha x hx)))⟩
    | _ => cases hn
noncomputable def st (c:Cr) (v:ByteArray) (t:Tp):Cr:=stF c.sz c v t
end Go.Proofs.YtdmbahepaglcbaaGreatDoor
