/- Abstract values (slices as lists) and what it means that a value of the machine, in a world, stands for one: it is read alone through cells that are shut ('com'). No condition. -/
import Derived.Tactics
import Derived.Orders
import Derived.Laws.Append
import Derived.Laws.StructEq
import Derived.Laws.Entries
set_option linter.unusedSimpArgs false
set_option linter.unusedVariables false
namespace Fp
open Go
inductive AV where
 | lit (v:Value)
 | sb (b:Bool)
 | nil
 | sl (l:List AV)
 | agg (l:List AV)
 | tup (l:List AV)
 | ptr (l:List AV)
 | fn (f:Fn) (l m:List AV)
 | mpv (l:List (AV×AV))
 | ifc (t:Nat) (a:AV)
 deriving Inhabited
def AV.cells:AV->List AV
 | .agg l=>l
 | a=>[a]
def AV.isCell:AV->Bool
 | .lit v=>v.oneCell'
 | .agg _ | .tup _=>false
 | _=>true
def com (F:Nat->Option Nat) (b k:Nat):Prop := ∀m,F b=some m->k<m
def Born (es:Array MapEntry) (clock:Nat):Prop:=(es.toList.map (·.born)).Nodup/\∀x∈es.toList,x.born<clock
inductive Rep (F:Nat->Option Nat) (w:World):Value->AV->Prop
 | lit (v:Value) (h:v.oneCell'=true):Rep F w v (.lit v)
 | sb (b:Bool):Rep F w (.bool b) (.sb b)
 | nil:Rep F w (.slice none 0 0) .nil
 | slNil:Rep F w (.slice none 0 0) (.sl [])
 | slZ (a:Addr):Rep F w (.slice (some a) 0 0) (.sl [])
 | sl (b off n cap sz:Nat) (l:List AV) (us:Nat->Value) (hn:l.length=n) (hc:n<=cap)
   (hsz:∀x∈l,x.cells.length=sz) (hcl:∀x∈l,∀c∈x.cells,c.isCell=true)
   (hcell:∀k,k<n*sz->w.cell? ⟨b,off+k,none⟩=some (us k)/\com F b (off+k))
   (hrep:∀i x j c,l[i]? = some x->x.cells[j]? = some c->Rep F w (us (i*sz+j)) c) :
   Rep F w (.slice (some ⟨b,off,none⟩) n cap) (.sl l)
 | agg (cs:Array Value) (l:List AV) (hl:cs.size=l.length) (hcl:∀c∈l,c.isCell=true)
   (h:∀(j:Nat) u c,cs[j]? = some u->l[j]? = some c->Rep F w u c):Rep F w (.agg cs) (.agg l)
 | tup (vs:Array Value) (l:List AV) (hl:vs.size=l.length)
   (h:∀(j:Nat) u c,vs[j]? = some u->l[j]? = some c->Rep F w u c):Rep F w (.tuple vs) (.tup l)
 | ptr (b off:Nat) (l:List AV) (us:Nat->Value) (hcl:∀c∈l,c.isCell=true) (hcell:∀k,k<l.length->w.cell? ⟨b,off+k,none⟩=some (us k)/\com F b (off+k))
   (hrep:∀(k:Nat) c,l[k]? = some c->Rep F w (us k) c):Rep F w (.pointer (some ⟨b,off,none⟩)) (.ptr l)
 | fn (f:Fn) (vs us:Array Value) (l m:List AV) (h1:vs.size=l.length) (h2:us.size=m.length)
   (hv:∀(j:Nat) u c,vs[j]? = some u->l[j]? = some c->Rep F w u c) (hu:∀(j:Nat) u c,us[j]? = some u->m[j]? = some c->Rep F w u c):Rep F w (.func f vs us) (.fn f l m)
 | mpv (b:Nat) (es:Array MapEntry) (clock:Nat) (l:List (AV×AV)) (hm:w.heap[b]? = some (.map es clock)) (hc:com F b 0) (hb:Born es clock) (hl:es.size=l.length)
   (hk:∀(j:Nat) e p,es[j]? = some e->l[j]? = some p->Rep F w e.key p.1) (hv:∀(j:Nat) e p,es[j]? = some e->l[j]? = some p->Rep F w e.val p.2):Rep F w (.map (some b)) (.mpv l)
 | ifc (t:Nat) (v:Value) (a:AV) (h:Rep F w v a):Rep F w (.iface t v) (.ifc t a)
structure Keeps (F:Nat->Option Nat) (w:World) (F':Nat->Option Nat) (w':World):Prop where
 cell:∀b k u,w.cell? ⟨b,k,none⟩=some u->com F b k->w'.cell? ⟨b,k,none⟩=some u/\com F' b k
 mp:∀(b:Nat) (es:Array MapEntry) (c:Nat),w.heap[b]? = some (.map es c)->com F b 0->w'.heap[b]? = some (.map es c)/\com F' b 0
theorem Keeps.refl (F:Nat->Option Nat) (w:World):Keeps F w F w:=⟨fun _ _ _ h c=>⟨h,c⟩,fun _ _ _ h c=>⟨h,c⟩⟩
theorem Keeps.trans {F F' F'':Nat->Option Nat} {w w' w'':World} (h:Keeps F w F' w') (k:Keeps F' w' F'' w''):Keeps F w F'' w'' :=
 ⟨fun b i u hc hm=>let ⟨h1,h2⟩:=h.cell b i u hc hm;k.cell b i u h1 h2,fun b es c hc hm=>let ⟨h1,h2⟩:=h.mp b es c hc hm;k.mp b es c h1 h2⟩
theorem Rep.mono {F F':Nat->Option Nat} {w w':World} {v:Value} {a:AV} (h:Rep F w v a) (hk:Keeps F w F' w'):Rep F' w' v a:=by
 induction h with
 | lit v h=>exact .lit v h
 | sb b=>exact .sb b
 | nil=>exact .nil
 | slNil=>exact .slNil
 | slZ a=>exact .slZ a
 | sl b off n cap sz l us hn hc hsz hcl hcell _ ih =>
  exact .sl b off n cap sz l us hn hc hsz hcl (fun k hlt=>let ⟨h1,h2⟩:=hcell k hlt;hk.cell _ _ _ h1 h2) ih
 | agg cs l hl hcl _ ih=>exact .agg cs l hl hcl ih
 | tup vs l hl _ ih=>exact .tup vs l hl ih
 | ptr b off l us hcl hcell _ ih=>exact .ptr b off l us hcl (fun k hlt=>let ⟨h1,h2⟩:=hcell k hlt;hk.cell _ _ _ h1 h2) ih
 | fn f vs us l m h1 h2 _ _ ih1 ih2=>exact .fn f vs us l m h1 h2 ih1 ih2
 | mpv b es clock l hm hc hb hl _ _ ih1 ih2=>exact .mpv b es clock l (hk.mp b es clock hm hc).1 (hk.mp b es clock hm hc).2 hb hl ih1 ih2
 | ifc t v a _ ih=>exact .ifc t v a ih
section
variable {F:Nat->Option Nat} {w:World} {v:Value}
theorem Rep.lit_eq {u:Value} (h:Rep F w v (.lit u)):v=u/\u.oneCell'=true:=by cases h with|lit _ h=>exact⟨rfl,h⟩
theorem Rep.sb_eq {b:Bool} (h:Rep F w v (.sb b)):v = .bool b:=by cases h;rfl
theorem Rep.nil_eq (h:Rep F w v .nil):v = .slice none 0 0:=by cases h;rfl
theorem Rep.nil_sl (h:Rep F w v .nil):Rep F w v (.sl []):=by cases h;exact .slNil
theorem Rep.one {a:AV} (h:Rep F w v a) (hc:a.isCell=true):v.oneCell'=true:=by
 cases h<;>first|assumption|rfl|(simp[AV.isCell] at hc)
theorem Rep.agg_eq {l:List AV} (h:Rep F w v (.agg l)) :
  ∃cs:Array Value,v = .agg cs/\cs.size=l.length/\(∀c∈l,c.isCell=true)/\∀(j:Nat) u c,cs[j]? = some u->l[j]? = some c->Rep F w u c:=by
 cases h with|agg cs l hl hcl h=>exact⟨cs,rfl,hl,hcl,h⟩
theorem Rep.tup_eq {l:List AV} (h:Rep F w v (.tup l)) :
  ∃cs:Array Value,v = .tuple cs/\cs.size=l.length/\∀(j:Nat) u c,cs[j]? = some u->l[j]? = some c->Rep F w u c:=by
 cases h with|tup cs l hl h=>exact⟨cs,rfl,hl,h⟩
theorem Rep.sl_shape {l:List AV} (h:Rep F w v (.sl l)):∃a cap,v = .slice a l.length cap/\l.length<=cap:=by
 cases h with
 | slNil=>exact⟨none,0,rfl,Nat.le_refl _⟩
 | slZ a=>exact⟨some a,0,rfl,Nat.le_refl _⟩
 | sl b off n cap sz l us hn hc=>subst hn;exact⟨_,cap,rfl,hc⟩
end
theorem zPC {F F':Nat->Option Nat} {b k:Nat} (h:com F b k) (e:F' b=F b):com F' b k:=fun m hm=>h m (by rw[<-e];exact hm)
def RepCells (F:Nat->Option Nat) (w:World) (cs:List Value) (l:List AV):Prop :=
 cs.length=l.length/\∀(j:Nat) u c,cs[j]? = some u->l[j]? = some c->Rep F w u c/\c.isCell=true
theorem RepCells.mono {F F':Nat->Option Nat} {w w':World} {cs:List Value} {l:List AV} (h:RepCells F w cs l) (hk:Keeps F w F' w'):RepCells F' w' cs l :=
 ⟨h.1,fun j u c hu hc=>⟨(h.2 j u c hu hc).1.mono hk,(h.2 j u c hu hc).2⟩⟩
theorem Rep.cells {F:Nat->Option Nat} {w:World} {v:Value} {a:AV} (h:Rep F w v a) (hs:∀l,a≠.tup l):RepCells F w v.cells.toList a.cells:=by
 have one:∀{a:AV} {v:Value},v.cells = #[v]->a.cells=[a]->a.isCell=true->Rep F w v a->RepCells F w v.cells.toList a.cells:=by
  intro a v hv ha hi hr;rw[hv,ha];refine⟨rfl,fun j u c hu hc=>?_⟩
  match j with
  | 0=>simp at hu hc;subst hu;subst hc;exact⟨hr,hi⟩
  | j+1=>simp at hu
 cases h with
 | lit v h=>exact one (by cases v<;>first|rfl|(simp[Value.oneCell'] at h)) rfl h (.lit v h)
 | sb b=>exact one rfl rfl rfl (.sb b)
 | nil=>exact one rfl rfl rfl .nil
 | slNil=>exact one rfl rfl rfl .slNil
 | slZ a=>exact one rfl rfl rfl (.slZ a)
 | sl b off n cap sz l us hn hc hsz hcl hcell hrep=>exact one rfl rfl rfl (.sl b off n cap sz l us hn hc hsz hcl hcell hrep)
 | agg cs l hl hcl h =>
  refine⟨by simpa[Value.cells,AV.cells] using hl,fun j u c hu hc=>⟨h j u c (by simpa[Value.cells] using hu) hc,hcl c (List.mem_of_getElem? hc)⟩⟩
 | tup vs l hl h=>exact absurd rfl (hs l)
 | ptr b off l us hcl hcell hrep=>exact one rfl rfl rfl (.ptr b off l us hcl hcell hrep)
 | fn f vs us l m h1 h2 hv hu=>exact one rfl rfl rfl (.fn f vs us l m h1 h2 hv hu)
 | mpv b es clock l hm hc hb hl hk hv=>exact one rfl rfl rfl (.mpv b es clock l hm hc hb hl hk hv)
 | ifc t v a h=>exact one rfl rfl rfl (.ifc t v a h)
theorem RepCells.agg {F:Nat->Option Nat} {w:World} {cs:Array Value} {l:List AV} (h:RepCells F w cs.toList l):Rep F w (.agg cs) (.agg l):=by
 refine .agg cs l (by simpa using h.1) (fun c hc=>?_) (fun j u c hu hc=>(h.2 j u c (by simpa using hu) hc).1);obtain⟨j,hj⟩:=List.getElem?_of_mem hc;have hlt:j<cs.toList.length:=by rw[h.1];exact (List.getElem?_eq_some_iff.1 hj).1
 exact (h.2 j _ c (List.getElem?_eq_getElem hlt) hj).2
theorem RepCells.cell {F:Nat->Option Nat} {w:World} {cs:List Value} {l:List AV} (h:RepCells F w cs l) {j:Nat} {c:AV} (hc:l[j]? = some c) :
  ∃u,cs[j]? = some u/\Rep F w u c/\c.isCell=true:=by
 have hlt:j<cs.length:=by rw[h.1];exact (List.getElem?_eq_some_iff.1 hc).1
 exact⟨_,List.getElem?_eq_getElem hlt,h.2 j _ c (List.getElem?_eq_getElem hlt) hc⟩
theorem Rep.sl_elem {F:Nat->Option Nat} {w:World} {v:Value} {l:List AV} (h:Rep F w v (.sl l)) {i:Nat} {x:AV} (hx:l[i]? = some x) :
  ∃b off cap,∃us:Nat->Value,v = .slice (some ⟨b,off,none⟩) l.length cap /\
   ∀(j:Nat) c,x.cells[j]? = some c->w.cell? ⟨b,off+(i*x.cells.length+j),none⟩=some (us j)/\com F b (off+(i*x.cells.length+j))/\Rep F w (us j) c/\c.isCell=true:=by
 cases h with
 | slNil=>simp at hx
 | slZ a=>simp at hx
 | sl b off n cap sz l us hn hc hsz hcl hcell hrep =>
  have hi:i<l.length:=(List.getElem?_eq_some_iff.1 hx).1;have hm:x∈l:=List.mem_of_getElem? hx;have hs:=hsz x hm;refine⟨b,off,cap,fun j=>us (i*sz+j),by rw[hn],fun j c hj=>?_⟩;have hj':j<sz:=by rw[<-hs];exact (List.getElem?_eq_some_iff.1 hj).1
  have hlt:i*sz+j<n*sz:=by
   have:(i+1)*sz<=n*sz:=Nat.mul_le_mul_right _ (by omega);rw[Nat.add_mul,Nat.one_mul] at this;omega
  rw[hs];exact⟨(hcell _ hlt).1,(hcell _ hlt).2,hrep i x j c hx hj,hcl x hm c (List.mem_of_getElem? hj)⟩
inductive SV where
 | junk
 | undef
 | v (a:AV)
 | box (g:Nat) (a:AV)
 | adB (s g off:Nat)
 | adE (l:List AV)
inductive HO where
 | cells (l:List AV)
 | mp (l:List (AV×AV))
 | it (l:List (AV×AV)) (seen:List Nat)
 | raw (p:Obj->Prop)
structure Env where
 vals:Nat->SV
 own:Nat->Nat->Nat
 al:Nat->Bool
 heap:List (Nat×HO)
inductive Ow where
 | no
 | tip (s c:Nat)
 | box (s g:Nat)
 | obj
 deriving DecidableEq
structure G where
 F:Nat->Option Nat
 O:Nat->Ow
def TipA (F:Nat->Option Nat) (w:World) (sz:Nat) (v:Value):Prop :=
 v = .slice none 0 0∨(∃a n,v = .slice a n n) ∨
 ∃b off n cap cs E,v = .slice (some ⟨b,off,none⟩) n cap/\n<=cap/\F b=some (off+n*sz)/\w.heap[b]? = some (.cells cs E (0,0))/\off+cap*sz<=cs.size
def zV (v:Value):Option Nat:=match v with
 | .slice (some a) n cap=>if n=cap then none else some a.block
 | _=>none
def Tip (g:G) (w:World) (s c sz:Nat) (v:Value):Prop:=TipA g.F w sz v/\∀b,zV v=some b->g.O b = .tip s c
def SlotOk (g:G) (w:World) (s:Nat) (x:SV) (v:Value):Prop :=
 match x with
 | .junk=>True
 | .undef=>v=undef
 | .v a=>Rep g.F w v a
 | .box k a => ∃b cs E,v = .pointer (some ⟨b,0,none⟩)/\g.O b = .box s k/\g.F b=some 0/\(∀b',g.O b' = .box s k->b'=b)/\w.heap[b]? = some (.cells cs E (0,0))/\RepCells g.F w cs.toList a.cells
 | .adB s' k off => ∃b,v = .pointer (some ⟨b,off,none⟩)/\g.O b = .box s' k
 | .adE l => ∃b off,v = .pointer (some ⟨b,off,none⟩)/\∀(j:Nat) c,l[j]? = some c->∃u,w.cell? ⟨b,off+j,none⟩=some u/\com g.F b (off+j)/\Rep g.F w u c/\c.isCell=true
def jO (F:Nat->Option Nat) (w:World) (es:List MapEntry) (l:List (AV×AV)):Prop :=
 es.length=l.length/\∀(j:Nat) e p,es[j]? = some e->l[j]? = some p->Rep F w e.key p.1/\Rep F w e.val p.2
def HoOk (F:Nat->Option Nat) (w:World) (b:Nat):HO->Prop
 | .cells l => ∃cs E,w.heap[b]? = some (.cells cs E (0,0))/\RepCells F w cs.toList l
 | .mp l => ∃es clock,w.heap[b]? = some (.map es clock)/\Born es clock/\jO F w es.toList l
 | .it l seen => ∃m es clock stamps,w.heap[b]? = some (.mapIter (some m) clock stamps clock)/\w.heap[m]? = some (.map es clock)/\com F m 0/\Born es clock/\jO F w es.toList l /\
   stamps.toList.length=seen.length/\∀(j i:Nat) x,seen[j]? = some i->stamps.toList[j]? = some x->∃e,es[i]? = some e/\x=e.born
 | .raw p => ∃o,w.heap[b]? = some o/\p o
def keys (h:List (Nat×HO)):List Nat:=h.map (·.1)
structure HeapIn (F:Nat->Option Nat) (w:World) (h:List (Nat×HO)):Prop where
 nodup:(keys h).Nodup
 shut:∀b∈keys h,F b=some 0
 ok:∀x∈h,HoOk F w x.1 x.2
def Fresh (F:Nat->Option Nat) (w:World):Prop := ∀b,w.heap.size<=b->F b=none
def Part (F:Nat->Option Nat) (w w':World) (b:Nat):Prop :=
 ∃cs cs' E m,w.heap[b]? = some (.cells cs E (0,0))/\w'.heap[b]? = some (.cells cs' E (0,0))/\cs'.size=cs.size/\F b=some m/\∀k,k<m->cs'[k]? = cs[k]?
structure Kept (F:Nat->Option Nat) (hk yk:List Nat) (w w':World):Prop where
 os:w'.os=w.os
 tape:w'.tape=w.tape
 output:w'.output=w.output
 size:w.heap.size<=w'.heap.size
 block:∀b,b<w.heap.size->b∈hk∨(b∈yk/\Part F w w' b)∨w'.heap[b]? = w.heap[b]?
def zWF (F F':Nat->Option Nat) (w:World) (yk:List Nat):Prop :=
 ∀b,b<w.heap.size->F' b=F b∨(b∈yk/\∃m m',F b=some m/\F' b=some m'/\m<=m')
structure Ctx where
 n:Nat
 W:World
 F:Nat->Option Nat
 hk:List Nat
 yk:List Nat
 ds:List Deferred:=[]
def PlaceVal (a:Act) (w:World) (x:SV) (s c:Nat) (v:Value):Prop :=
 match x with
 | .v _=>c=0/\a.tmps.getD s undef=v
 | .box _ _ => ∃b,a.tmps.getD s undef = .pointer (some ⟨b,0,none⟩)/\w.cell? ⟨b,c,none⟩=some v
 | _=>False
structure Rel (cx:Ctx) (g:G) (e:Env) (a:Act) (w:World):Prop where
 size:a.tmps.size=cx.n
 defers:a.defers=cx.ds
 kept:Kept cx.F cx.hk cx.yk cx.W w
 fext:zWF cx.F g.F cx.W cx.yk
 old:∀b,b<cx.W.heap.size->b∉cx.yk->g.O b = .no∨(b∈cx.hk/\g.O b = .obj)
 hkO:∀b,b∈cx.hk->b<cx.W.heap.size
 hkin:∀b,b<cx.W.heap.size->g.O b = .obj->b∈cx.hk
 fresh:Fresh g.F w
 freshO:∀b,w.heap.size<=b->g.O b = .no
 slots:∀s,SlotOk g w s (e.vals s) (a.tmps.getD s undef)
 own:∀s c sz v,e.own s c=sz+1->PlaceVal a w (e.vals s) s c v->Tip g w s c sz v
 heap:HeapIn g.F w e.heap
 heapO:∀b∈keys e.heap,g.O b = .obj
 al:∀b s,g.O b = .box s 1->e.al s=true
 nbx:∀b s q,b<cx.W.heap.size->g.O b≠.box s q
inductive U where
 | val (s:Nat) (x:SV)
 | own (s c n:Nat)
 | clr (s:Nat)
 | al (s:Nat)
 | heap (h:List (Nat×HO))
def zBJ (f:Nat->SV) (d:Nat) (x:SV):Nat->SV:=fun s=>bif Nat.beq s d then x else f s
def app1 (e:Env):U->Env
 | .val d x=>{e with vals:=zBJ e.vals d x}
 | .own s c n=>{e with own:=fun s' c'=>bif Nat.beq s' s && Nat.beq c' c then n else e.own s' c'}
 | .clr s=>{e with own:=fun s' c'=>bif Nat.beq s' s then 0 else e.own s' c'}
 | .al s=>{e with al:=fun s'=>bif Nat.beq s' s then true else e.al s'}
 | .heap h=>{e with heap:=h}
def app (e:Env):List U->Env
 | []=>e
 | u::us=>app (app1 e u) us
theorem yG (e:Env) (us vs:List U):app e (us++vs)=app (app e us) vs:=by
 induction us generalizing e with
 | nil=>rfl
 | cons u us ih=>exact ih _
theorem World.heap_alloc_lt (w:World) (o:Obj) {k:Nat} (h:k<w.heap.size):(w.alloc o).heap[k]? = w.heap[k]?:=by
 show (w.heap.push o)[k]? = _;rw[Array.getElem?_push,if_neg (by omega)]
theorem World.heap_alloc_new (w:World) (o:Obj):(w.alloc o).heap[w.heap.size]? = some o:=by
 show (w.heap.push o)[w.heap.size]? = _;simp
theorem World.cell_of_heap {w w':World} {b k:Nat} (h:w'.heap[b]? = w.heap[b]?):w'.cell? ⟨b,k,none⟩=w.cell? ⟨b,k,none⟩:=by
 unfold World.cell?;simp only[h]
theorem World.lt_of_cell {w:World} {b k:Nat} {u:Value} (h:w.cell? ⟨b,k,none⟩=some u):b<w.heap.size:=by
 unfold World.cell? at h;cases hb:w.heap[b]? with
 | none=>simp[hb] at h
 | some o=>exact (Array.getElem?_eq_some_iff.1 hb).1
theorem World.cell_of_cells {w:World} {b:Nat} {cs:Array Value} {E:TypeId} {fr:Nat×Nat} (h:w.heap[b]? = some (.cells cs E fr)) (k:Nat):w.cell? ⟨b,k,none⟩=cs[k]?:=by
 unfold World.cell?;simp only[h];rfl
structure Grow (w w':World):Prop where
 os:w'.os=w.os
 tape:w'.tape=w.tape
 output:w'.output=w.output
 size:w.heap.size<=w'.heap.size
 block:∀b,b<w.heap.size->w'.heap[b]? = w.heap[b]?
theorem Grow.refl (w:World):Grow w w:=⟨rfl,rfl,rfl,Nat.le_refl _,fun _ _=>rfl⟩
theorem Grow.drew (w:World):Grow w w.drew:=⟨rfl,rfl,rfl,Nat.le_refl _,fun _ _=>rfl⟩
theorem Grow.alloc (w:World) (o:Obj):Grow w (w.alloc o):=⟨rfl,rfl,rfl,by simp,fun _ h=>World.heap_alloc_lt w o h⟩
theorem Grow.trans {a b c:World} (h:Grow a b) (k:Grow b c):Grow a c :=
 ⟨k.os.trans h.os,k.tape.trans h.tape,k.output.trans h.output,Nat.le_trans h.size k.size,fun i hi=>(k.block i (Nat.lt_of_lt_of_le hi h.size)).trans (h.block i hi)⟩
theorem Grow.keeps {w w':World} (h:Grow w w') {F F':Nat->Option Nat} (hF:∀b,b<w.heap.size->F' b=F b):Keeps F w F' w':=by
 refine⟨fun b k u hc hm=>?_,fun b es c hc hm=>?_⟩
 ·have hb:=World.lt_of_cell hc;exact⟨by rw[World.cell_of_heap (h.block b hb)];exact hc,fun m hm'=>hm m (by rw[<-hF b hb];exact hm')⟩
 ·have hb:b<w.heap.size:=(Array.getElem?_eq_some_iff.1 hc).1;exact⟨(h.block b hb).trans hc,zPC hm (hF b hb)⟩
theorem Kept.grow {F:Nat->Option Nat} {hk yk:List Nat} {w w' w'':World} (h:Kept F hk yk w w') (k:Grow w' w''):Kept F hk yk w w'':=by
 refine⟨k.os.trans h.os,k.tape.trans h.tape,k.output.trans h.output,Nat.le_trans h.size k.size,fun b hb=>?_⟩;have hb':=k.block b (Nat.lt_of_lt_of_le hb h.size);rcases h.block b hb with h1|⟨h1,cs,cs',E,m,p1,p2,p3,p4,p5⟩|h1
 ·exact .inl h1
 ·exact .inr (.inl ⟨h1,cs,cs',E,m,p1,by rw[hb'];exact p2,p3,p4,p5⟩)
 ·exact .inr (.inr (hb'.trans h1))
theorem TipA.grow {F F':Nat->Option Nat} {w w':World} {sz:Nat} {v:Value} (h:TipA F w sz v) (hk:∀(b:Nat) (cs:Array Value) (E:TypeId),w.heap[b]? = some (Obj.cells cs E (0,0))->w'.heap[b]? = some (Obj.cells cs E (0,0)))
  (hF:∀(b:Nat) (cs:Array Value) (E:TypeId),w.heap[b]? = some (Obj.cells cs E (0,0))->F' b=F b):TipA F' w' sz v:=by
 rcases h with h|h|⟨b,off,n,cap,cs,E,h1,h2,h3,h4,h5⟩
 ·exact .inl h
 ·exact .inr (.inl h)
 ·exact .inr (.inr ⟨b,off,n,cap,cs,E,h1,h2,by rw[hF b cs E h4];exact h3,hk b cs E h4,h5⟩)
theorem zL {w:World} {b:Nat} {o:Obj} (h:w.heap[b]? = some o):b<w.heap.size:=(Array.getElem?_eq_some_iff.1 h).1
theorem HoOk.grow {F F':Nat->Option Nat} {w w':World} {b:Nat} {o:HO} (h:HoOk F w b o) (hk:Keeps F w F' w') (hb:b<w.heap.size->w'.heap[b]? = w.heap[b]?):HoOk F' w' b o:=by
 cases o with
 | cells l =>
  obtain⟨cs,E,h1,h2⟩:=h;exact⟨cs,E,by rw[hb (zL h1)];exact h1,h2.mono hk⟩
 | mp l =>
  obtain⟨es,cl,h1,h0,h2,h3⟩:=h;exact⟨es,cl,by rw[hb (zL h1)];exact h1,h0,h2,fun j e p he hp=>⟨(h3 j e p he hp).1.mono hk,(h3 j e p he hp).2.mono hk⟩⟩
 | it l seen =>
  obtain⟨m,es,cl,st,h1,h2,h3,h4,⟨h5,h6⟩,h7⟩:=h;exact⟨m,es,cl,st,by rw[hb (zL h1)];exact h1,(hk.mp m es cl h2 h3).1,(hk.mp m es cl h2 h3).2,h4,⟨h5,fun j e p he hp=>⟨(h6 j e p he hp).1.mono hk,(h6 j e p he hp).2.mono hk⟩⟩,h7⟩
 | raw p =>
  obtain⟨o,h1,h2⟩:=h;exact⟨o,by rw[hb (zL h1)];exact h1,h2⟩
theorem HeapIn.grow {F F':Nat->Option Nat} {w w':World} {h:List (Nat×HO)} (hh:HeapIn F w h) (k:Grow w w') (hF:∀b,b<w.heap.size->F' b=F b):HeapIn F' w' h:=by
 have key:∀b∈keys h,b<w.heap.size:=by
  intro b hb;obtain⟨x,hx,rfl⟩:=List.mem_map.1 hb;have:=hh.ok x hx;cases ho:x.2 with
  | cells l=>rw[ho] at this;obtain⟨cs,E,h1,_⟩:=this;exact zL h1
  | mp l=>rw[ho] at this;obtain⟨cs,E,h1,_⟩:=this;exact zL h1
  | it l seen=>rw[ho] at this;obtain⟨m,es,cl,st,h1,_⟩:=this;exact zL h1
  | raw p=>rw[ho] at this;obtain⟨o,h1,_⟩:=this;exact zL h1
 exact⟨hh.nodup,fun b hb=>by rw[hF b (key b hb)];exact hh.shut b hb,fun x hx=>(hh.ok x hx).grow (k.keeps hF) (k.block _)⟩
theorem Rel.grow {cx:Ctx} {g:G} {e:Env} {a:Act} {w w':World} (h:Rel cx g e a w) (k:Grow w w'):Rel cx g e a w':=by
 have kp:Keeps g.F w g.F w':=k.keeps (fun _ _=>rfl);refine {h with kept:=h.kept.grow k,fresh:=fun b hb=>h.fresh b (Nat.le_trans k.size hb),freshO:=fun b hb=>h.freshO b (Nat.le_trans k.size hb),slots:=fun s=>?_,own:=fun s c sz v ho hp=>?_,heap:=h.heap.grow k (fun _ _=>rfl)}
 ·have:=h.slots s;cases hx:e.vals s with
  | junk=>trivial
  | undef=>rw[hx] at this;exact this
  | v a=>rw[hx] at this;exact Rep.mono this kp
  | box q a =>
   rw[hx] at this;obtain⟨b,cs,E,h1,h2,h3,h4,h5,h6⟩:=this;exact⟨b,cs,E,h1,h2,h3,h4,by rw[k.block b (zL h5)];exact h5,h6.mono kp⟩
  | adB s' q off=>rw[hx] at this;exact this
  | adE l =>
   rw[hx] at this;obtain⟨b,off,h1,h2⟩:=this;exact⟨b,off,h1,fun j c hj=>let ⟨u,p1,p2,p3,p4⟩:=h2 j c hj;⟨u,(kp.cell b _ u p1 p2).1,(kp.cell b _ u p1 p2).2,p3.mono kp,p4⟩⟩
 ·have hp':PlaceVal a w (e.vals s) s c v:=by
   cases hx:e.vals s with
   | v a=>rw[hx] at hp;exact hp
   | box q a' =>
    rw[hx] at hp;obtain⟨b,h1,h2⟩:=hp;have hs:=h.slots s;rw[hx] at hs;obtain⟨b',cs,E,e1,_,_,_,e5,_⟩:=hs;rw[h1] at e1;injection e1 with e1;injection e1 with e1;injection e1 with e1
    subst e1;exact⟨b,h1,by rw[World.cell_of_heap (k.block b (zL e5))] at h2;exact h2⟩
   | _=>rw[hx] at hp;exact hp
  have ht:=h.own s c sz v ho hp';exact⟨TipA.grow ht.1 (fun b cs E hb=>by rw[k.block b (zL hb)];exact hb) (fun _ _ _ _=>rfl),ht.2⟩
theorem Nat.beq_self (n:Nat):Nat.beq n n=true:=Nat.beq_refl n
theorem Nat.beq_ne {a b:Nat} (h:a≠b):Nat.beq a b=false:=by
 cases hb:Nat.beq a b with
 | false=>rfl
 | true=>exact absurd (Nat.eq_of_beq_eq_true hb) h
theorem zW (f:Nat->SV) (d:Nat) (x:SV):zBJ f d x d=x:=by simp[zBJ]
theorem yQ (f:Nat->SV) {d s:Nat} (x:SV) (h:s≠d):zBJ f d x s=f s:=by simp[zBJ,Nat.beq_ne h]
theorem yK {a:Act} {d:Nat} {v:Value} (h:d<a.tmps.size):(a.put (some d) v).tmps.getD d undef=v:=by
 simp[Act.put,h]
theorem qH {a:Act} {d s:Nat} {v:Value} (h:s≠d):(a.put (some d) v).tmps.getD s undef=a.tmps.getD s undef:=by
 simp[Act.put,Array.getElem?_setIfInBounds_ne (Ne.symm h)]
theorem Rel.put {cx:Ctx} {g:G} {e:Env} {a:Act} {w:World} (h:Rel cx g e a w) {d:Nat} (hd:d<cx.n) {x:SV} {v:Value} (hx:SlotOk g w d x v) :
  Rel cx g (app e [.val d x,.clr d]) (a.put (some d) v) w:=by
 refine {h with size:=by simpa[Act.put] using h.size,slots:=fun s=>?_,own:=fun s c sz u ho hp=>?_}
 ·simp only[app,app1];by_cases hs:s=d
  ·subst hs;rw[zW,yK (by rw[h.size];exact hd)];exact hx
  ·rw[yQ _ _ hs,qH hs];exact h.slots s
 ·simp only[app,app1] at ho hp;by_cases hs:s=d
  ·subst hs;simp at ho
  ·rw[Nat.beq_ne hs] at ho;rw[yQ _ _ hs] at hp;refine h.own s c sz u (by simpa using ho) ?_;cases hv:e.vals s with
   | v a'=>rw[hv] at hp;exact⟨hp.1,by rw[<-hp.2,qH hs]⟩
   | box q a'=>rw[hv] at hp;obtain⟨b,h1,h2⟩:=hp;exact⟨b,by rw[<-h1,qH hs],h2⟩
   | _=>rw[hv] at hp;exact hp
theorem Rel.putNone {cx:Ctx} {g:G} {e:Env} {a:Act} {w:World} (h:Rel cx g e a w) (v:Value):Rel cx g e (a.put none v) w:=h
inductive TK where
 | sc (z:AV)
 | st (n:Nat) (offs:List (Nat×Nat)) (fts:List Nat) (z:List AV)
 | sl (e esz:Nat)
 | mp (k e:Nat)
 | other
abbrev TT:=List (Nat×TK)
def find (T:TT) (t:Nat):TK:=match T with
 | [] => .other
 | (i,k)::r=>bif Nat.beq i t then k else find r t
def AV.zv:AV->Value
 | .lit v=>v
 | _ => .slice none 0 0
def Uni (n:Nat) (l:List AV):Prop := ∀a∈l,a.cells.length=n
def AV.zok:AV->Bool
 | .lit v=>v.oneCell'
 | .nil=>true
 | _=>false
def zDN (a b:IntKind):Bool:=match a,b with
 | .i8,.i8 | .i16,.i16 | .i32,.i32 | .i64,.i64 | .u8,.u8 | .u16,.u16 | .u32,.u32 | .u64,.u64=>true
 | _,_=>false
def zKR (d:TypeDesc) (z:AV):Bool:=match z,d with
 | .lit (.bool false),.bool=>true
 | .lit (.int k _),.int k'=>zDN k k'
 | .lit (.string _),.string=>true
 | .lit (.pointer none),.pointer _=>true
 | .lit (.map none),.map _ _=>true
 | .lit .nilFunc,.func _ _ _=>true
 | .lit .nilIface,.interface _=>true
 | _,_=>false
def KOk (P:Program) (t:Nat):TK->Prop
 | .sc z => ∃d i,P.underlying t=some d/\zKR d z=true/\P.info? t=some i/\i.size=1/\i.zero=some z.zv/\z.zok=true
 | .st n offs fts z => ∃fs i,P.underlying t=some (.struct fs)/\P.info? t=some i/\i.size=n/\i.zero=some (.agg (z.map AV.zv).toArray)/\z.all AV.zok=true/\z.length=n /\
   fs.toList.map (fun f=>(f.offset,(P.info? f.type).map (·.size)))=offs.map (fun p=>(p.1,some p.2))/\offs.all (fun p=>Nat.blt 0 p.2 && Nat.ble (p.1+p.2) n)=true/\fs.toList.map (·.type)=fts
 | .sl e esz => ∃it i z,P.underlying t=some (.slice e)/\P.info? t=some it/\it.size=1/\it.zero=some (.slice none 0 0)/\P.info? e=some i/\i.size=esz/\i.zero=some z/\z.cells.size=esz /\
   z.cells.all (·.oneCell')=true/\0<esz/\0<i.bytes/\i.bytes<=32768
 | .mp k e=>P.underlying t=some (.map k e)/\∃i,P.info? t=some i/\i.size=1/\i.zero=some (.map none)
 | .other=>True
def zN (P:Program):TT->Prop
 | []=>True
 | (t,k)::r=>KOk P t k/\zN P r
def isNil:AV->Bool
 | .nil=>true
 | .lit (.bool _)=>true
 | _=>false
def wk1:AV->AV
 | .nil => .sl []
 | .lit (.bool b) => .sb b
 | a=>a
def zLY:AV->AV
 | .nil => .sl []
 | .lit (.bool b) => .sb b
 | .agg l => .agg (l.map wk1)
 | a=>a
def zM0:AV->Bool
 | .nil=>true
 | .lit (.bool _)=>true
 | .agg l=>l.any isNil
 | _=>false
def wk (a:AV):AV:=bif zM0 a then zLY a else a
def zNC (v:Value):SV:=match v with
 | .slice none 0 0 => .v .nil
 | .agg _ => .junk
 | .tuple _ => .junk
 | v => .v (.lit v)
def opd (e:Env):Operand->SV
 | .tmp t=>e.vals t
 | .const v=>zNC v
 | .func f => .v (.lit (.func (.func f) #[] #[]))
 | .global g => .v (.lit (.pointer (some ⟨g,0,none⟩)))
def opds (e:Env):List Operand->Option (List AV)
 | []=>some []
 | o::r=>match opd e o with
  | .v a=>match opds e r with
   | some l=>some (wk a::l)
   | none=>none
  | _=>none
def zOS (e:Env):Operand->Nat
 | .tmp t=>e.own t 0
 | _=>0
def putU (d:Option Nat) (x:SV):List U:=match d with
 | some d=>[.val d x,.clr d]
 | none=>[]
def z4A (ops:List Oper) (d:Nat):Bool:=ops.any fun o=>match o.op with
 | .call {callee := .builtin .append,args:=a,.. }=>match a[0]? with
  | some (Operand.tmp t)=>Nat.beq t d
  | _=>false
 | _=>false
def z3T (ops:List Oper) (t:Nat):Option Nat:=ops.findSome? fun o=>match o.dst,o.op with
 | some d,.fieldAddr _ (.tmp u) _=>bif Nat.beq d t then some u else none
 | _,_=>none
def root (ops:List Oper):Nat->Nat->Nat
 | 0,t=>t
 | n+1,t=>match z3T ops t with
  | some u=>root ops n u
  | none=>t
def rootOf (ops:List Oper) (t:Nat):Nat:=root ops 6 t
def zI1 (ops:List Oper) (s:Nat):Bool:=ops.any fun q=>match q.dst,q.op with
 | some d,.indexAddr _ _ _=>Nat.beq d (rootOf ops s)
 | _,_=>false
def zXH:Op->Bool
 | .assign _=>true
 | _=>false
def z1Y (ops:List Oper) (d:Nat) (o:Oper):Bool:=match o.op with
 | .move (.tmp s)=>ops.any fun c=>match c.dst,c.op with
  | some r,.call {callee := .value _,args:=a,.. }=>(a.toList.any fun x=>match x with
    | .tmp t=>Nat.beq t d
    | _=>false) && ops.any fun q=>match q.dst,q.op with
    | some s',.assign (.tmp r')=>Nat.beq s' s && Nat.beq r' r
    | _,_=>false
  | _,_=>false
 | _=>false
def z4K (ops:List Oper) (d:Nat):Bool:=ops.any fun q=>match q.op with
 | .assign (.tmp r)=>Nat.beq r d
 | _=>false
def hands (ops:List Oper) (o:Oper):Bool:=match o.dst with
 | some d=>zXH o.op || (z4A ops d || (z4K ops d || z1Y ops d o))
 | none=>false
def setAt (l:List AV) (off:Nat) (cs:List AV):List AV:=l.take off++(cs++l.drop (off+cs.length))
def zBN:AV->Option Bool
 | .sb b=>some b
 | .lit (.bool b)=>some b
 | _=>none
def arith (op:BinOp) (ka:IntKind) (x y:Int) (k:AV->Prop):Prop:=match op with
 | .add=>k (.lit (.int ka (ka.wrap (x+y))))
 | .sub=>k (.lit (.int ka (ka.wrap (x-y))))
 | .mul=>k (.lit (.int ka (ka.wrap (x*y))))
 | .eql=>k (.sb (decide (x=y)))
 | .neq=>k (.sb (!decide (x=y)))
 | .lss=>k (.sb (decide (x<y)))
 | .leq=>k (.sb (decide (x<=y)))
 | .gtr=>k (.sb (decide (y<x)))
 | .geq=>k (.sb (decide (y<=x)))
 | .quo=>y≠0/\k (.lit (.int ka (ka.wrap (x.tdiv y))))
 | .rem=>y≠0/\k (.lit (.int ka (x.tmod y)))
 | _=>False
def zZ7 (op:BinOp) (x y:ByteArray) (k:AV->Prop):Prop:=match op with
 | .add=>x.size+y.size<=4611686018427387904/\k (.lit (.string (x++y)))
 | .eql=>k (.sb (decide (x=y)))
 | .neq=>k (.sb (!decide (x=y)))
 | _=>False
def bin (tk:TK) (op:BinOp) (a b:AV) (k:AV->Prop):Prop:=match a,b with
 | .lit (.int ka x),.lit (.int kb y)=>match zDN ka kb with
  | true=>arith op ka x y k
  | false=>False
 | .lit (.string x),.lit (.string y)=>zZ7 op x y k
 | .lit (.pointer (some _)),.lit (.pointer none)=>match tk,op with
  | .sc (.lit (.pointer none)),.eql=>k (.lit (.bool false))
  | .sc (.lit (.pointer none)),.neq=>k (.lit (.bool true))
  | _,_=>False
 | .lit (.pointer none),.lit (.pointer none)=>match tk,op with
  | .sc (.lit (.pointer none)),.eql=>k (.lit (.bool true))
  | .sc (.lit (.pointer none)),.neq=>k (.lit (.bool false))
  | _,_=>False
 | .ptr _,.lit (.pointer none)=>match tk,op with
  | .sc (.lit (.pointer none)),.eql=>k (.lit (.bool false))
  | .sc (.lit (.pointer none)),.neq=>k (.lit (.bool true))
  | _,_=>False
 | .nil,.nil=>match tk,op with
  | .sl _ _,.eql=>k (.lit (.bool true))
  | .sl _ _,.neq=>k (.lit (.bool false))
  | _,_=>False
 | .sl (_::_),.nil=>match tk,op with
  | .sl _ _,.eql=>k (.lit (.bool false))
  | .sl _ _,.neq=>k (.lit (.bool true))
  | _,_=>False
 | a,b=>match zBN a,zBN b with
  | some x,some y=>match tk,op with
   | .sc (.lit (.bool _)),.eql=>k (.sb (x == y))
   | .sc (.lit (.bool _)),.neq=>k (.sb (!(x == y)))
   | _,_=>False
  | _,_=>False
def zGR (offs:List (Nat×Nat)) (z:List AV):List (Nat×AV)->Option (List AV)
 | []=>some z
 | (i,a)::r=>match offs[i]? with
  | some (off,sz)=>bif Nat.beq a.cells.length sz then zGR offs (setAt z off a.cells) r else none
  | none=>none
def z0Z (e:Env) (o:Operand):Option AV:=match opd e o with
 | .v a=>match a with
  | .tup _=>none
  | _=>some a
 | _=>none
def zD5 (e:Env):List (Nat×Operand)->Option (List (Nat×AV))
 | []=>some []
 | (i,o)::r=>match z0Z e o,zD5 e r with
  | some a,some l=>some ((i,a)::l)
  | _,_=>none
def zDZ (e:Env) (esz:Nat):Nat->List (Nat×Operand)->Option (List AV)
 | _,[]=>some []
 | n,(i,o)::r=>match Nat.beq i n,z0Z e o with
  | true,some a=>match Nat.beq (wk a).cells.length esz,zDZ e esz (n+1) r with
   | true,some l=>some (wk a::l)
   | _,_=>none
  | _,_=>none
def zAJ (e:Env):List Operand->Option (List Value)
 | []=>some []
 | o::r=>match opd e o with
  | .v (.lit v)=>match zAJ e r with
   | some l=>some (v::l)
   | none=>none
  | _=>none
def Enters (P : Program) (f : Nat) : Prop := ∃ fn, P.funcs[f]? = some fn /\ fn.body.isSome = true /\ (fn.name == "runtime.NumGoroutine") = false
def zS:List Value->List Nat->List Nat
 | v::vs,(_+1)::os=>(match zV v with|some b=>[b]|none=>[])++zS vs os
 | _::vs,0::os=>zS vs os
 | _,_=>[]
structure qQ (F:Nat->Option Nat) (w:World) (vs:List Value) (args:List AV) (os:List Nat):Prop where
 len:vs.length=args.length
 rep:∀(i:Nat) v a,vs[i]? = some v->args[i]? = some a->Rep F w v a
 tip:∀(i:Nat) v sz,vs[i]? = some v->os[i]? = some (sz+1)->TipA F w sz v
 apart:(zS vs os).Nodup
def yJ (F:Nat->Option Nat) (hk yk:List Nat) (w:World) (post:AV->Nat->List (Nat×HO)->Prop) (e:Ending) (w':World):Prop :=
 ∃v r o hout F',e = .returned v/\post r o hout/\Rep F' w' v r/\(∀sz,o=sz+1->TipA F' w' sz v/\∀b,zV v=some b->b∈yk∨(w.heap.size<=b/\b∉keys hout)) /\
  Kept F hk yk w w'/\zWF F F' w yk/\Fresh F' w'/\HeapIn F' w' hout/\∀b∈keys hout,b∈hk∨w.heap.size<=b
def CallsG (P:Program) (fv:Value) (hin:List (Nat×HO)) (args:List AV) (os:List Nat) (post:AV->Nat->List (Nat×HO)->Prop):Prop :=
 ∃f first cap,fv = .func (.func f) first cap/\Enters P f /\
  ∀F w vs,Fresh F w->HeapIn F w hin->qQ F w vs args os->(∀b∈zS vs os,b∉keys hin) ->
   Calls P f (first++vs.toArray++cap) w (yJ F (keys hin) (zS vs os) w post)
abbrev fnv (f:Nat):Value := .func (.func f) #[] #[]
def zE4 (P:Program) (fv:Value) (args:List AV) (r:AV):Prop:=CallsG P fv [] args [] fun r' o h=>r'=r/\o=0/\h=[]
abbrev zB (P:Program) (f:Nat) (args:List AV) (r:AV):Prop:=zE4 P (fnv f) args r
def xK:List Nat->List (Nat×HO)->Option (List (Nat×HO))
 | [],_=>some []
 | i::is,h=>match h[i]?,xK is h with
  | some x,some l=>some (x::l)
  | _,_=>none
def wX (is:List Nat):Nat->List (Nat×HO)->List (Nat×HO)
 | _,[]=>[]
 | n,x::r=>bif is.any (Nat.beq n) then wX is (n+1) r else x::wX is (n+1) r
def yF (is:List Nat) (h:List (Nat×HO)):List (Nat×HO):=wX is 0 h
def zRT:Value->Bool
 | .slice none 0 0=>true
 | _=>false
theorem zVK {v:Value} (h:zRT v=true):v = .slice none 0 0:=by
 unfold zRT at h;split at h
 ·rfl
 ·cases h
def wR (e:Env):List Operand->List Nat->Bool
 | _,[]=>true
 | [],_::_=>false
 | _::r,0::os=>wR e r os
 | a::r,(n+1)::os=>match a with
  | .tmp t=>Nat.beq (e.own t 0) (n+1) && wR (app1 e (.own t 0 0)) r os
  | .const v=>zRT v && wR e r os
  | _=>false
def lose:List Operand->List Nat->List U
 | .tmp t::r,(_+1)::os => .own t 0 0::lose r os
 | _::r,_::os=>lose r os
 | _,_=>[]
def zGU (k:IntKind) (x:Int):List AV->Option Int
 | []=>some x
 | .lit (.int k' y)::r=>match zDN k k' with
  | true=>zGU k (if y<x then y else x) r
  | false=>none
 | _=>none
def zG3 (k:IntKind) (x:Int):List AV->Option Int
 | []=>some x
 | .lit (.int k' y)::r=>match zDN k k' with
  | true=>zG3 k (if y > x then y else x) r
  | false=>none
 | _=>none
def zN1 (T:TT) (q:Nat):Option (List AV):=match find T q with
 | .sc z=>some [wk1 z]
 | .st _ _ _ z=>some (z.map wk1)
 | .sl _ _=>some [.sl []]
 | .mp _ _=>some [.lit (.map none)]
 | .other=>none
def zB1 (e:Env) (o:Operand):Option Int:=match opd e o with
 | .v (.lit (.int _ i))=>some i
 | _=>none
def bnd (e:Env) (o:Option Operand) (d:Int):Option Int:=match o with
 | none=>some d
 | some v=>zB1 e v
def u8s:List AV->Option (List UInt8)
 | []=>some []
 | .lit (.int .u8 n)::r=>match u8s r with
  | some l=>some (UInt8.ofNat n.toNat::l)
  | none=>none
 | _=>none
section
variable (P:Program) (T:TT) (hp:Bool) (ops:List Oper)
def zHB (o:Oper) (x:Operand) (e:Env) (k:List U->Prop):Prop:=match opd e x with
 | .v a=>match hands ops o,x,o.dst with
  | true,.tmp s,some d=>match Nat.beq s d with
   | true=>False
   | false=>k [.val d (.v a),.clr d,.own d 0 (e.own s 0),.own s 0 0]
  | _,_,_=>k (putU o.dst (.v a))
 | _=>False
def wC (o:Oper) (t:Nat) (s:Nat) (e:Env) (k:List U->Prop):Prop:=match find T t,e.vals s with
 | .st n _ _ _,.box _ a=>match Nat.beq a.cells.length n,a with
  | true,.agg _=>k (putU o.dst (.v a))
  | _,_=>False
 | .st n _ _ _,.adE l=>match Nat.ble n l.length with
  | true=>k (putU o.dst (.v (.agg (l.take n))))
  | false=>False
 | .st n _ _ _,.adB s' g off=>match e.vals s',Nat.beq s' (rootOf ops s) with
  | .box g' a,true=>match Nat.beq g g' && Nat.ble (off+n) a.cells.length with
   | true=>k (putU o.dst (.v (.agg ((a.cells.drop off).take n))))
   | false=>False
  | _,_=>False
 | .st n _ _ _,.v (.lit (.pointer (some ⟨b,off,none⟩))) => ∃(i:Nat) (l:List AV),e.heap[i]? = some (b,HO.cells l)/\off+n<=l.length/\k (putU o.dst (.v (.agg ((l.drop off).take n))))
 | .st _ _ _ _,_=>False
 | .other,_=>False
 | _,.box _ a=>match a.cells with
  | [c]=>k (putU o.dst (.v c))
  | _=>False
 | _,.adE (c::_)=>k (putU o.dst (.v c))
 | _,.adB s' g off=>match e.vals s',Nat.beq s' (rootOf ops s) with
  | .box g' a,true=>match a.cells[off]?,Nat.beq g g' with
   | some c,true=>match hands ops o,o.dst with
    | true,some d=>match Nat.beq s' d with
     | true=>False
     | false=>k [.val d (.v c),.clr d,.own d 0 (e.own s' off),.own s' off 0]
    | _,_=>k (putU o.dst (.v c))
   | _,_=>False
  | _,_=>False
 | _,.v (.lit (.pointer (some ⟨b,off,none⟩))) => ∃(i:Nat) (l:List AV) (c:AV),e.heap[i]? = some (b,HO.cells l)/\l[off]? = some c/\k (putU o.dst (.v c))
 | _,_=>False
def qP (s off:Nat):Nat->List U
 | 0=>[]
 | n+1 => .own s (off+n) 0::qP s off n
def zF0 (t:Nat):Option Nat:=match find T t with
 | .st n _ _ _=>some n
 | .other=>none
 | _=>some 1
def z1T (n:Nat) (m:Option Nat):Bool:=match m with
 | some m=>Nat.beq n m
 | none=>false
def zM3 (t:Nat) (s:Nat) (y:Operand) (e:Env) (k:List U->Prop):Prop:=match opd e y with
 | .v a=>match z1T a.cells.length (zF0 T t),a with
  | true,.tup _=>False
  | true,_=>match e.vals s with
   | .box g a0=>match Nat.beq a0.cells.length a.cells.length,a,y with
    | true,.agg _,_=>k [.val s (.box g a),.clr s]
    | true,_,.tmp u=>k [.val s (.box g a),.clr s,.own s 0 (zOS e y),.own u 0 0]
    | true,_,_=>k [.val s (.box g a),.clr s]
    | _,_,_=>False
   | .adB s' g off=>match e.vals s',Nat.beq s' (rootOf ops s) with
    | .box g' a0,true=>match Nat.beq g g' && Nat.ble (off+a.cells.length) a0.cells.length,a,y with
     | true,.agg _,_=>k (.val s' (.box g (.agg (setAt a0.cells off a.cells)))::qP s' off a.cells.length)
     | true,_,.tmp u=>k [.val s' (.box g (.agg (setAt a0.cells off a.cells))),.own s' off (zOS e y),.own u 0 0]
     | true,_,_=>k [.val s' (.box g (.agg (setAt a0.cells off a.cells))),.own s' off 0]
     | _,_,_=>False
    | _,_=>False
   | .v (.lit (.pointer (some ⟨b,off,none⟩)))=>(hp || zI1 ops s)=true/\∃(i:Nat) (l:List AV),e.heap[i]? = some (b,HO.cells l)/\off+a.cells.length<=l.length/\k [.heap (e.heap.set i (b,HO.cells (setAt l off a.cells)))]
   | _=>False
  | _,_=>False
 | _=>False
def zMZ (o:Oper) (t:Nat) (s f:Nat) (e:Env) (k:List U->Prop):Prop:=match find T t with
 | .st _ offs _ _=>match offs[f]?,e.vals s with
  | some (off,_),.box g _=>match Nat.beq s (rootOf ops s) with
   | true=>k (putU o.dst (.adB s g off))
   | false=>False
  | some (off,_),.adB s' g off'=>match Nat.beq s' (rootOf ops s) with
   | true=>k (putU o.dst (.adB s' g (off'+off)))
   | false=>False
  | some (off,_),.adE l=>k (putU o.dst (.adE (l.drop off)))
  | some (off,_),.v (.lit (.pointer (some ⟨b,off',none⟩)))=>k (putU o.dst (.v (.lit (.pointer (some ⟨b,off'+off,none⟩)))))
  | _,_=>False
 | _=>False
def zNG (o:Oper) (t:Nat) (x:Operand) (lo hi mx:Option Operand) (e:Env) (k:List U->Prop):Prop:=match opd e x with
 | .v (.lit (.string s))=>match find T t,bnd e lo 0,bnd e hi (s.size:Nat),mx with
  | .sc (.lit (.string _)),some l,some h,none=>0<=l/\l<=h/\h<=s.size/\k (putU o.dst (.v (.lit (.string (s.extract l.toNat h.toNat)))))
  | _,_,_,_=>False
 | .v a=>match wk a,find T t with
  | .sl q,.sl _ esz=>match bnd e lo 0,bnd e hi (q.length:Nat),mx with
   | some l,some h,none=>0<=l/\l<=h/\h<=q.length/\(l=0∨Uni esz q)/\k (putU o.dst (.v (.sl ((q.take h.toNat).drop l.toNat))))
   | some l,some h,some m=>match zB1 e m,o.dst,hi with
    | some m,some d,some _=>0<=l/\l<=h/\h<=q.length/\m=h/\(l=0∨Uni esz q)/\k [.val d (.v (.sl ((q.take h.toNat).drop l.toNat))),.clr d,.own d 0 (esz+1)]
    | _,_,_=>False
   | _,_,_=>False
  | _,_=>False
 | _=>False
def zIN (o:Oper) (t:Nat) (x y:Operand) (e:Env) (k:List U->Prop):Prop:=match find T t,opd e x,opd e y,o.dst with
 | .sl _ esz,.v a,.v b,some d=>match a,wk a,wk b with
  | .nil,.sl l,.sl m=>l.length+m.length<=4294967296/\Uni esz l/\Uni esz m/\k [.val d (.v (.sl (l++m))),.clr d,.own d 0 (esz+1)]
  | _,.sl l,.sl m=>match x with
   | .tmp s=>match Nat.beq s d,Nat.beq (e.own s 0) (esz+1) with
    | false,true=>l.length+m.length<=4294967296/\Uni esz l/\Uni esz m/\k [.val d (.v (.sl (l++m))),.clr d,.own d 0 (esz+1),.own s 0 0]
    | _,_=>False
   | _=>False
  | _,_,_=>False
 | _,_,_,_=>False
def zB4 (o:Oper) (fv:Value) (as:List Operand) (e:Env) (k:List U->Prop):Prop:=match opds e as with
 | some args=>(∃r,zE4 P fv args r/\k (putU o.dst (.v r))) ∨
   (hp=true/\∃is hin os post,xK is e.heap=some hin/\is.Nodup/\wR e as os=true/\CallsG P fv hin args os post /\
    ∀r w hout,post r w hout->k (lose as os++(putU o.dst (.v r)++((match o.dst with|some d=>[.own d 0 w]|none=>[])++[.heap (yF is e.heap++hout)]))))
 | none=>False
def zZY (o:Oper) (t:Nat) (x:Operand) (e:Env) (k:List U->Prop):Prop:=match opd e x,find T t with
 | .v (.lit (.string s)),.sc (.lit (.string _))=>k (putU o.dst (.v (.lit (.int .i64 (s.size:Nat)))))
 | .v a,.sl _ _=>match wk a with
  | .sl l=>k (putU o.dst (.v (.lit (.int .i64 (l.length:Nat)))))
  | .lit (.slice _ n _)=>k (putU o.dst (.v (.lit (.int .i64 (n:Nat)))))
  | _=>False
 | _,_=>False
def zYE (o:Oper) (t:Nat) (A:Option Addr) (n cap:Nat) (y:Operand) (e:Env) (k:List U->Prop):Prop:=match find T t,opd e y,o.dst with
 | .sl _ esz,.v b,some d=>match wk b with
  | .sl m=>m≠[]/\n+m.length<=4294967296/\Uni esz m/\(match A with
   | none=>n=0/\cap=0/\∀b' cap' zs,m.length<=cap'->zs.length=(cap'-m.length)*esz->k [.val d (.v (.lit (.slice (some ⟨b',0,none⟩) m.length cap'))),.clr d,.heap (e.heap++[(b',HO.cells (m.flatMap AV.cells++zs))])]
   | some ⟨b,0,none⟩ => ∃(i:Nat) (l:List AV),e.heap[i]? = some (b,HO.cells l)/\n<=cap/\l.length=cap*esz/\∀b' cap' zs,n+m.length<=cap'->zs.length=(cap'-(n+m.length))*esz ->
     k [.val d (.v (.lit (.slice (some ⟨b',0,none⟩) (n+m.length) cap'))),.clr d,.heap (e.heap.set i (b',HO.cells (l.take (n*esz)++(m.flatMap AV.cells++zs))))]
   | _=>False)
  | _=>False
 | _,_,_=>False
def zGI (o:Oper) (b:Builtin) (ts:List Nat) (as:List Operand) (e:Env) (k:List U->Prop):Prop:=match b,ts,as with
 | .len,t::_,[x]=>zZY T o t x e k
 | .append,[t,t'],[x,y]=>match Nat.beq t t' with
  | true=>match opd e x with
   | .v (.lit (.slice A n cap))=>hp=true/\zYE T o t A n cap y e k
   | _=>zIN T o t x y e k
  | false=>False
 | .min,_,as=>match opds e as with
  | some (.lit (.int q x)::r)=>match zGU q x r with
   | some m=>k (putU o.dst (.v (.lit (.int q m))))
   | none=>False
  | _=>False
 | .max,_,as=>match opds e as with
  | some (.lit (.int q x)::r)=>match zG3 q x r with
   | some m=>k (putU o.dst (.v (.lit (.int q m))))
   | none=>False
  | _=>False
 | _,_,_=>False
def ay (o:Oper) (e:Env) (k:List U->Prop):Prop :=
 match o.op with
 | .move x=>zHB ops o x e k
 | .assign x=>zHB ops o x e k
 | .box _ x=>match opd e x,o.dst with
  | .v a,some d=>match e.al d,a with
   | _,.tup _=>False
   | false,_=>k [.val d (.box 1 a),.clr d,.al d]
   | _,_=>False
  | _,_=>False
 | .alloc t=>match find T t,o.dst with
  | .st _ _ _ z,some d=>match e.al d with
   | false=>k [.val d (.box 1 (.agg z)),.clr d,.al d]
   | true=>False
  | .sc z,some d=>match e.al d with
   | false=>k [.val d (.box 1 z),.clr d,.al d]
   | true=>False
  | .sl _ _,some d=>match e.al d with
   | false=>k [.val d (.box 1 .nil),.clr d,.al d]
   | true=>False
  | .mp _ _,some d=>match e.al d with
   | false=>k [.val d (.box 1 (.lit (.map none))),.clr d,.al d]
   | true=>False
  | _,_=>False
 | .fieldAddr t (.tmp s) f=>zMZ T ops o t s f e k
 | .load t (.tmp s)=>wC T ops o t s e k
 | .store t (.tmp s) y=>match o.dst with
  | none=>zM3 T hp ops t s y e k
  | some _=>False
 | .binOp op t x y _=>match opd e x,opd e y with
  | .v a,.v b=>bin (find T t) op a b fun r=>k (putU o.dst (.v r))
  | _,_=>False
 | .unOp .not _ x=>match opd e x with
  | .v a=>match zBN a with
   | some b=>match a with
    | .lit _=>k (putU o.dst (.v (.lit (.bool (!b)))))
    | _=>k (putU o.dst (.v (.sb (!b))))
   | none=>False
  | _=>False
 | .unOp .neg _ x=>match opd e x with
  | .v (.lit (.int q n))=>k (putU o.dst (.v (.lit (.int q (q.wrap (0-n))))))
  | _=>False
 | .convert s t x=>match opd e x,find T t,find T s with
  | .v (.lit (.int _ n)),.sc (.lit (.int q _)),.sc _=>k (putU o.dst (.v (.lit (.int q (q.wrap n)))))
  | .v (.lit (.int _ n)),.sc (.lit (.string _)),.sc _=>k (putU o.dst (.v (.lit (.string (Utf8.encode n)))))
  | .v (.lit (.string s)),.sc (.lit (.string _)),.sc (.lit (.string _))=>k (putU o.dst (.v (.lit (.string s))))
  | .v (.sl l),.sc (.lit (.string _)),.sl u 1=>match find T u,u8s l with
   | .sc (.lit (.int .u8 _)),some bs=>k (putU o.dst (.v (.lit (.string ⟨bs.toArray⟩))))
   | _,_=>False
  | _,_,_=>False
 | .extract x i=>match opd e x with
  | .v (.tup l)=>match l[i]? with
   | some a=>k (putU o.dst (.v a))
   | none=>False
  | _=>False
 | .field t x f=>match find T t,opd e x with
  | .st _ offs fts _,.v (.agg l)=>match offs[f]?,fts[f]? with
   | some (off,_),some u=>match find T u with
    | .st n _ _ _=>match Nat.ble (off+n) l.length with
     | true=>k (putU o.dst (.v (.agg ((l.drop off).take n))))
     | false=>False
    | .sc _=>match l[off]? with
     | some c=>k (putU o.dst (.v c))
     | none=>False
    | .sl _ _=>match l[off]? with
     | some c=>k (putU o.dst (.v c))
     | none=>False
    | _=>False
   | _,_=>False
  | _,_=>False
 | .build t parts=>match find T t,zD5 e parts.toList with
  | .st _ offs _ z,some ps=>match zGR offs z ps with
   | some l=>k (putU o.dst (.v (.agg l)))
   | none=>False
  | _,_=>False
 | .buildSlice t n parts=>match find T t,o.dst with
  | .sl _ esz,some d=>match zDZ e esz 0 parts.toList,Nat.beq parts.size n && Nat.ble (n*esz) 16777216 with
   | some l,true=>k [.val d (.v (.sl l)),.clr d,.own d 0 (esz+1)]
   | _,_=>False
  | _,_=>False
 | .indexAddr t x ix=>match opd e x,zB1 e ix,find T t with
  | .v (.sl l),some i,.sl _ esz => ∃a,0<=i/\l[i.toNat]? = some a/\a.cells.length=esz/\k (putU o.dst (.adE a.cells))
  | .v (.lit (.slice (some ⟨b,off,none⟩) n _)),some i,.sl _ esz=>0<=i/\i<(n:Nat)/\k (putU o.dst (.v (.lit (.pointer (some ⟨b,off+i.toNat*esz,none⟩)))))
  | _,_,_=>False
 | .index t x ix=>match opd e x,zB1 e ix,find T t with
  | .v (.lit (.string s)),some i,.sc (.lit (.string _)) => ∃c,0<=i/\s[i.toNat]? = some c/\k (putU o.dst (.v (.lit (.int .u8 (c.toNat:Nat)))))
  | _,_,_=>False
 | .slice t x lo hi mx=>zNG T o t x lo hi mx e k
 | .pick c a b=>match opd e c with
  | .v c=>match zBN c with
   | some c=>match c with
    | true=>match opd e a with
     | .v a=>k (putU o.dst (.v a))
     | _=>False
    | false=>match opd e b with
     | .v b=>k (putU o.dst (.v b))
     | _=>False
   | none=>False
  | _=>False
 | .nilCheck x=>match opd e x with
  | .v (.lit (.pointer (some a)))=>k (putU o.dst (.v (.lit (.pointer (some a)))))
  | _=>False
 | .makeFunc fn first captured=>match zAJ e first.toList,zAJ e captured.toList with
  | some f,some c=>k (putU o.dst (.v (.lit (.func fn f.toArray c.toArray))))
  | _,_=>False
 | .makeSlice t l c=>match zB1 e l,zB1 e c,find T t,o.dst with
  | some l,some c,.sl q _,some d=>match zN1 T q with
   | some zs=>hp=true/\0<=l/\l<=c/\c<=4294967296/\∀b,k [.val d (.v (.lit (.slice (some ⟨b,0,none⟩) l.toNat c.toNat))),.clr d,.heap (e.heap++[(b,HO.cells (List.replicate c.toNat zs).flatten)])]
   | none=>False
  | _,_,_,_=>False
 | .call c=>match c.callee with
  | .value f=>match opd e f with
   | .v (.lit fv)=>zB4 P hp o fv c.args.toList e k
   | _=>False
  | .builtin b=>zGI T hp o b c.argTypes.toList c.args.toList e k
  | _=>False
 | _=>False
end
def bV (s:Nat):Nat:=2 ^ (4*s)
def bO (s:Nat):Nat:=2 ^ (4*s+1)
def bZ (s:Nat):Nat:=2 ^ (4*s+2)
def wrU:List U->Nat
 | []=>0
 | .val s _::r=>bV s ||| wrU r
 | .own s _ _::r=>bO s ||| wrU r
 | .clr s::r=>bO s ||| wrU r
 | .al s::r=>bZ s ||| wrU r
 | .heap _::r=>8 ||| wrU r
def zJ:Operand->Nat
 | .tmp t=>bV t
 | _=>0
def zG:List Operand->Nat
 | []=>0
 | o::r=>zJ o ||| zG r
def jD:Operand->Nat
 | .tmp t=>bO t
 | _=>0
def zCC:List Operand->Nat
 | []=>0
 | o::r=>jD o ||| zCC r
def zKP (b:Builtin) (as:List Operand):Nat:=match b with
 | .append=>zCC as
 | _=>0
def yI (d:Option Nat):Nat:=match d with
 | some d=>bV d ||| bO d
 | none=>0
def gslot (ops:List Oper) (j:Nat):Option Nat:=match ops[j]? with|some o=>o.dst|none=>none
def zY (ops:List Oper) (o:Oper):Nat:=match o.guard with
 | none=>0
 | some (j,_)=>match gslot ops j with
  | some g=>bV g
  | none=>0
def rd (ops:List Oper) (hp:Bool) (o:Oper):Nat:=zY ops o ||| (match o.op with
 | .move x=>zJ x ||| (bif hands ops o then jD x else 0)
 | .assign x=>zJ x ||| jD x
 | .box _ x=>zJ x ||| (match o.dst with|some d=>bZ d|none=>0)
 | .alloc _=>(match o.dst with|some d=>bZ d|none=>0)
 | .load _ (.tmp s)=>bV s ||| (bV (rootOf ops s) ||| ((bif hands ops o then bO (rootOf ops s) else 0) ||| 8))
 | .store _ (.tmp s) y=>bV s ||| (bV (rootOf ops s) ||| (zJ y ||| (jD y ||| (bif hp || zI1 ops s then 8 else 0))))
 | .call c=>(match c.callee with
  | .value f=>zJ f ||| (zG c.args.toList ||| (bif hp then zCC c.args.toList ||| 8 else 0))
  | .builtin b=>zG c.args.toList ||| zKP b c.args.toList
  | _=>zG c.args.toList)
 | op=>zG op.operands.toList)
def wr (ops:List Oper) (hp:Bool) (o:Oper):Nat:=yI o.dst ||| (match o.op with
 | .move x=>(bif hands ops o then jD x else 0)
 | .assign x=>jD x
 | .box _ _=>(match o.dst with|some d=>bZ d|none=>0)
 | .alloc _=>(match o.dst with|some d=>bZ d|none=>0)
 | .load _ (.tmp s)=>(bif hands ops o then bO (rootOf ops s) else 0)
 | .store _ (.tmp s) y=>bV s ||| (bO s ||| (bV (rootOf ops s) ||| (bO (rootOf ops s) ||| (jD y ||| (bif hp || zI1 ops s then 8 else 0)))))
 | .call c=>(match c.callee with
  | .value _=>(bif hp then zCC c.args.toList ||| 8 else 0)
  | .builtin b=>zKP b c.args.toList
  | _=>0)
 | _=>0)
theorem Env.ext' {e e':Env} (h1:∀s,e.vals s=e'.vals s) (h2:∀s c,e.own s c=e'.own s c) (h3:∀s,e.al s=e'.al s) (h4:e.heap=e'.heap):e=e':=by
 cases e;cases e'
 simp only[Env.mk.injEq];exact⟨funext h1,funext fun s=>funext fun c=>h2 s c,funext h3,h4⟩
structure Mem (g:G) (w:World) (g':G) (w':World):Prop where
 keeps:Keeps g.F w g'.F w'
 box:∀b s k,g.O b = .box s k->g'.O b = .box s k/\g'.F b=g.F b/\w'.heap[b]? = w.heap[b]?
 boxes:∀b s k,g'.O b = .box s k->g.O b = .box s k∨∀b',g.O b'≠.box s k
theorem SlotOk.mem {g g':G} {w w':World} (m:Mem g w g' w') {s:Nat} {x:SV} {v:Value} (h:SlotOk g w s x v):SlotOk g' w' s x v:=by
 cases x with
 | junk=>trivial
 | undef=>exact h
 | v a=>exact Rep.mono h m.keeps
 | box k a =>
  obtain⟨b,cs,E,h1,h2,h3,h4,h5,h6⟩:=h;obtain⟨p1,p2,p3⟩:=m.box b s k h2;refine⟨b,cs,E,h1,p1,by rw[p2];exact h3,fun b' hb'=>?_,by rw[p3];exact h5,h6.mono m.keeps⟩;rcases m.boxes b' s k hb' with h|h
  ·exact h4 b' h
  ·exact absurd h2 (h b)
 | adB s' k off =>
  obtain⟨b,h1,h2⟩:=h;exact⟨b,h1,(m.box b s' k h2).1⟩
 | adE l =>
  obtain⟨b,off,h1,h2⟩:=h;exact⟨b,off,h1,fun j c hj=>let ⟨u,p1,p2,p3,p4⟩:=h2 j c hj;⟨u,(m.keeps.cell b _ u p1 p2).1,(m.keeps.cell b _ u p1 p2).2,p3.mono m.keeps,p4⟩⟩
theorem Rel.boxAt {cx:Ctx} {g:G} {e:Env} {a:Act} {w:World} (h:Rel cx g e a w) {s k:Nat} {x:AV} (hx:e.vals s = .box k x) :
  ∃b cs E,a.tmps.getD s undef = .pointer (some ⟨b,0,none⟩)/\g.O b = .box s k/\g.F b=some 0/\(∀b',g.O b' = .box s k->b'=b)/\w.heap[b]? = some (.cells cs E (0,0))/\RepCells g.F w cs.toList x.cells:=by
 have:=h.slots s;rw[hx] at this;exact this
theorem PlaceVal.box_inv {a:Act} {w:World} {k:Nat} {x:AV} {s c:Nat} {v:Value} (h:PlaceVal a w (.box k x) s c v) {b:Nat} (hb:a.tmps.getD s undef = .pointer (some ⟨b,0,none⟩)) :
  w.cell? ⟨b,c,none⟩=some v:=by
 obtain⟨b',h1,h2⟩:=h;rw[hb] at h1;injection h1 with h1;injection h1 with h1;injection h1 with h1
 subst h1;exact h2
theorem PlaceVal.back {cx:Ctx} {g:G} {e:Env} {a:Act} {w w':World} (h:Rel cx g e a w) (hbox:∀b s k,g.O b = .box s k->w'.heap[b]? = w.heap[b]?) {s c:Nat} {v:Value}
  (hp:PlaceVal a w' (e.vals s) s c v):PlaceVal a w (e.vals s) s c v:=by
 cases hx:e.vals s with
 | v a'=>rw[hx] at hp;exact hp
 | box k x =>
  rw[hx] at hp;obtain⟨b,cs,E,h1,h2,h3,h4,h5,h6⟩:=h.boxAt hx;have:=PlaceVal.box_inv hp h1;exact⟨b,h1,by rw[World.cell_of_heap (hbox b s k h2)] at this;exact this⟩
 | _=>rw[hx] at hp;exact hp
theorem Rel.extend {cx : Ctx} {g : G} {e : Env} {a : Act} {w w' : World} (h : Rel cx g e a w) (k : Grow w w') {b0 : Nat} (h0 : w.heap.size <= b0) (h1 : b0 < w'.heap.size) (f : Option Nat) (o : Ow)
    (hbox : ∀ s q, o = .box s q -> (∀ b, g.O b ≠ .box s q) /\ (q = 1 -> e.al s = true)) :
    Rel cx { F := fun b => if b = b0 then f else g.F b, O := fun b => if b = b0 then o else g.O b } e a w' := by
  have hlt : ∀ b, b < w.heap.size -> b ≠ b0 := fun b hb he => by omega
  have hF : ∀ b, b < w.heap.size -> (fun b => if b = b0 then f else g.F b) b = g.F b := fun b hb => by simp [hlt b hb]
  have hOlt : ∀ b, g.O b ≠ .no -> b < w.heap.size := fun b hb => by
    rcases Nat.lt_or_ge b w.heap.size with h' | h'
    · exact h'
    · exact absurd (h.freshO b h') hb
  have m : Mem g w { F := fun b => if b = b0 then f else g.F b, O := fun b => if b = b0 then o else g.O b } w' := by
    refine ⟨k.keeps hF, fun b s q hb => ?_, fun b s q hb => ?_⟩
    · have hb' := hOlt b (by rw [hb]; simp)
      have hne := hlt b hb';simp only [hne, if_false];exact ⟨hb, trivial, k.block b hb'⟩
    · by_cases he : b = b0
      · subst he
        simp only [if_true] at hb;exact .inr (hbox s q hb).1
      · simp only [he, if_false] at hb
        exact .inl hb
  have hW : ∀ b, b < cx.W.heap.size -> b ≠ b0 := fun b hb => hlt b (Nat.lt_of_lt_of_le hb h.kept.size)
  refine { size := h.size, defers := h.defers, kept := h.kept.grow k, fext := fun b hb => by simp only [hW b hb, if_false]; exact h.fext b hb, nbx := fun b s q hb => by simp only [hW b hb, if_false]; exact h.nbx b s q hb, old := fun b hb h1 => by simp only [hW b hb, if_false]; exact h.old b hb h1, hkO := h.hkO, hkin := fun b hb => by simp only [hW b hb, if_false]; exact h.hkin b hb,
           fresh := fun b hb => by have : b ≠ b0 := by omega
                                   simp only [this, if_false]; exact h.fresh b (Nat.le_trans k.size hb),
           freshO := fun b hb => by have : b ≠ b0 := by omega
                                    simp only [this, if_false]; exact h.freshO b (Nat.le_trans k.size hb),
           slots := fun s => (h.slots s).mem m, own := fun s c sz v ho hp => ?_, heap := h.heap.grow k hF,
           heapO := fun b hb => ?_, al := fun b s hb => ?_ }
  · have ht := h.own s c sz v ho (PlaceVal.back h (fun b s q hb => (m.box b s q hb).2.2) hp)
    refine ⟨TipA.grow ht.1 (fun b cs E hb => by rw [k.block b (zL hb)]; exact hb) (fun b cs E hb => by simp only [hlt b (zL hb), if_false]), fun b hb => ?_⟩;have := ht.2 b hb;have hne := hlt b (hOlt b (by rw [this]; simp));simp only [hne, if_false]; exact this
  · have := h.heapO b hb
    have hne := hlt b (hOlt b (by rw [this]; simp));simp only [hne, if_false]; exact this
  · by_cases he : b = b0
    · subst he
      simp only [if_true] at hb;exact (hbox s 1 hb).2 rfl
    · simp only [he, if_false] at hb
      exact h.al b s hb
theorem Rel.setAl {cx : Ctx} {g : G} {e : Env} {a : Act} {w : World} (h : Rel cx g e a w) (d : Nat) : Rel cx g (app e [.al d]) a w :=
  { h with al := fun b s hb => (by
      have := h.al b s hb;simp only [app, app1]
      cases Nat.beq s d <;> simp [this]) }
theorem Rel.setOwn {cx:Ctx} {g:G} {e:Env} {a:Act} {w:World} (h:Rel cx g e a w) (s c n:Nat) (ht:∀sz v,n=sz+1->PlaceVal a w (e.vals s) s c v->Tip g w s c sz v) :
  Rel cx g (app e [.own s c n]) a w:=by
 refine {h with own:=fun s' c' sz v ho hp=>?_};simp only[app,app1] at ho hp;by_cases h1:s'=s/\c'=c
 ·obtain⟨rfl,rfl⟩:=h1;simp at ho;exact ht sz v ho hp
 ·refine h.own s' c' sz v ?_ hp;by_cases h2:s'=s
  ·subst h2;have:c'≠c:=fun e=>h1 ⟨rfl,e⟩;simpa[Nat.beq_ne this] using ho
  ·simpa[Nat.beq_ne h2] using ho
theorem Rel.newBox {cx:Ctx} {g:G} {e:Env} {a:Act} {w w':World} (h:Rel cx g e a w) {d:Nat} (hd:d<cx.n) (hal:e.al d=false) (k:Grow w w') {b:Nat} (h0:w.heap.size<=b) {cs:Array Value} {E:TypeId}
  (hb:w'.heap[b]? = some (.cells cs E (0,0))) {x:AV} (hx:RepCells g.F w cs.toList x.cells) :
  ∃g',Rel cx g' (app e [.val d (.box 1 x),.clr d,.al d]) (a.put (some d) (.pointer (some ⟨b,0,none⟩))) w':=by
 have hno:∀b,g.O b≠.box d 1:=fun b hb=>by have:=h.al b d hb;rw[hal] at this;cases this
 have h2:=(h.setAl d).extend k h0 (zL hb) (some 0) (.box d 1) (fun s q he=>by
  injection he with e1 e2
  subst e1;subst e2;exact⟨hno,fun _=>by simp[app,app1]⟩)
 have hlt:∀b',b'<w.heap.size->b'≠b:=fun b' hb' he=>by omega
 have h3:=h2.put hd (x := .box 1 x) (v := .pointer (some ⟨b,0,none⟩)) ⟨b,cs,E,rfl,by simp,by simp,fun b' hb'=>by
   by_cases he:b'=b
   ·exact he
   ·simp only[he,if_false] at hb';exact absurd hb' (hno b'),hb,hx.mono (k.keeps fun b' hb'=>by simp[hlt b' hb'])⟩
 exact⟨_,h3⟩
def zIH (cs:Array Value) (off:Nat) (vs:List Value) (cs':Array Value):Prop :=
 cs'.size=cs.size/\∀k:Nat,cs'[k]? = if off<=k/\k<off+vs.length then vs[k-off]? else cs[k]?
structure Stored (w w':World) (b:Nat) (cs cs':Array Value) (E:TypeId):Prop where
 os:w'.os=w.os
 tape:w'.tape=w.tape
 output:w'.output=w.output
 size:w'.heap.size=w.heap.size
 was:w.heap[b]? = some (.cells cs E (0,0))
 now:w'.heap[b]? = some (.cells cs' E (0,0))
 len:cs'.size=cs.size
 block:∀k,k≠b->w'.heap[k]? = w.heap[k]?
theorem Addr.add_at (b off i:Nat):(⟨b,off,none⟩:Addr).add i=⟨b,off+i,none⟩:=by
 unfold Addr.add;split<;>simp_all
theorem zJR {w:World} {b k:Nat} {cs:Array Value} {E:TypeId} (h:w.heap[b]? = some (.cells cs E (0,0))) (v:Value) :
  Stored w (w.setCell ⟨b,k,none⟩ v) b cs (cs.setIfInBounds k v) E:=by
 refine⟨rfl,rfl,rfl,by simp,h,?_,by simp,fun j hj=>?_⟩
 ·simp only[World.setCell,Array.getElem?_modify,h]
  rfl
 ·simp only[World.setCell,Array.getElem?_modify];rw[if_neg (by omega)]
theorem Stored.trans {w w1 w2:World} {b:Nat} {cs cs1 cs2:Array Value} {E:TypeId} (h:Stored w w1 b cs cs1 E) (k:Stored w1 w2 b cs1 cs2 E):Stored w w2 b cs cs2 E :=
 ⟨k.os.trans h.os,k.tape.trans h.tape,k.output.trans h.output,k.size.trans h.size,h.was,k.now,k.len.trans h.len,fun j hj=>(k.block j hj).trans (h.block j hj)⟩
theorem xE {P:Program}:∀(vs:List Value) (w:World) (b off i:Nat) (cs:Array Value) (E:TypeId),w.heap[b]? = some (.cells cs E (0,0))->off+i+vs.length<=cs.size->(∀v∈vs,v.oneCell'=true) ->
  ∃w' cs',(storeCells ⟨b,off,none⟩ vs i).run P w = .ok () w'/\Stored w w' b cs cs' E/\zIH cs (off+i) vs cs'
 | [],w,b,off,i,cs,E,h,_,_=>⟨w,cs,by simp[storeCells],⟨rfl,rfl,rfl,rfl,h,h,rfl,fun _ _=>rfl⟩,rfl,fun k=>by
   rw[if_neg (by simp)]⟩
 | v::vs,w,b,off,i,cs,E,h,hf,h1=>by
  simp only[List.length_cons] at hf;have hc:w.cell? ⟨b,off+i,none⟩=some cs[off+i]:=by
   rw[World.cell_of_cells h,Array.getElem?_eq_getElem (by omega)]
  have hfr:w.frozen? ⟨b,off+i,none⟩=false:=by
   unfold World.frozen?;simp[h]
  have hs:=zJR (k:=off+i) h v;obtain⟨w',cs',hr,hst,hsz,hat⟩:=xE (P:=P) vs (w.setCell ⟨b,off+i,none⟩ v) b off (i+1) _ E hs.now (by rw[hs.len];omega) (fun u hu=>h1 u (List.mem_cons_of_mem _ hu));refine⟨w',cs',?_,hs.trans hst,hsz.trans hs.len,fun k=>?_⟩
  ·simp only[storeCells,Addr.add_at,Sem.run_bind,run_store P w _ v .plain (h1 v (List.mem_cons_self)),hc,hfr,Bool.false_eq_true,if_false,Result.andThen_ok];exact hr
  ·rw[hat k];by_cases hk:off+i=k
   ·subst hk;rw[if_neg (by omega),if_pos (by simp)];simp[show off+i<cs.size by omega]
   ·by_cases hk2:off+(i+1)<=k/\k<off+(i+1)+vs.length
    ·rw[if_pos hk2,if_pos (by simp;omega)];have:k-(off+i)=(k-(off+(i+1)))+1:=by omega
     rw[this,List.getElem?_cons_succ]
    ·rw[if_neg hk2,if_neg (by simp;omega),Array.getElem?_setIfInBounds_ne hk]
theorem Stored.keeps {w w':World} {b:Nat} {cs cs':Array Value} {E:TypeId} (h:Stored w w' b cs cs' E) {F F':Nat->Option Nat}
  (hF:∀k,k≠b->F' k=F k) (hb:∀k u,com F b k->cs[k]? = some u->cs'[k]? = some u/\com F' b k):Keeps F w F' w':=by
 refine⟨fun j k u hc hm=>?_,fun j es c hc hm=>?_⟩
 ·by_cases hj:j=b
  ·subst hj;rw[World.cell_of_cells h.was] at hc;rw[World.cell_of_cells h.now];exact hb k u hm hc
  ·rw[World.cell_of_heap (h.block j hj)];exact⟨hc,fun m hm'=>hm m (by rw[<-hF j hj];exact hm')⟩
 ·have hj:j≠b:=fun e=>by subst e;have:=h.was;rw[hc] at this;cases this
  exact⟨(h.block j hj).trans hc,zPC hm (hF j hj)⟩
theorem Kept.stored {F:Nat->Option Nat} {hk yk:List Nat} {w w' w'':World} (h:Kept F hk yk w w') {b:Nat} {cs cs':Array Value} {E:TypeId} (k:Stored w' w'' b cs cs' E)
  (hb:b<w.heap.size->b∈hk∨(b∈yk/\∃m,F b=some m/\∀j,j<m->cs'[j]? = cs[j]?)):Kept F hk yk w w'':=by
 refine⟨k.os.trans h.os,k.tape.trans h.tape,k.output.trans h.output,by rw[k.size];exact h.size,fun j hj=>?_⟩;by_cases he:j=b
 ·subst he;rcases hb hj with h1|⟨h1,m,hm,h2⟩
  ·exact .inl h1
  ·rcases h.block j hj with p|⟨p,c0,c1,E0,m0,q1,q2,q3,q4,q5⟩|p
   ·exact .inl p
   ·refine .inr (.inl ⟨h1,c0,cs',E0,m0,q1,?_,?_,q4,fun i hi=>?_⟩)
    ·have:=k.was;rw[q2] at this;injection this with this;injection this with _ this;rw[this];exact k.now
    ·have:=k.was;rw[q2] at this;injection this with this;injection this with this _;rw[k.len,<-this,q3]
    ·have:=k.was;rw[q2] at this;injection this with this;injection this with this _
     rw[q4] at hm;injection hm with hm;subst hm
     rw[h2 i hi,<-this,q5 i hi]
   ·exact .inr (.inl ⟨h1,cs,cs',E,m,by rw[<-p];exact k.was,k.now,k.len,hm,h2⟩)
 ·rcases h.block j hj with p|⟨p,c0,c1,E0,m0,q1,q2,q3,q4,q5⟩|p
  ·exact .inl p
  ·exact .inr (.inl ⟨p,c0,c1,E0,m0,q1,by rw[k.block j he];exact q2,q3,q4,q5⟩)
  ·exact .inr (.inr ((k.block j he).trans p))
theorem Rel.setBox {cx : Ctx} {g : G} {e : Env} {a : Act} {w w' : World} (h : Rel cx g e a w) {s k b : Nat} {x x' : AV} {cs cs' : Array Value} {E : TypeId} (hx : e.vals s = .box k x)
    (hp : a.tmps.getD s undef = .pointer (some ⟨b, 0, none⟩)) (st : Stored w w' b cs cs' E) (hx' : RepCells g.F w cs'.toList x'.cells) {us : List U}
    (hown : ∀ s' c, (app e us).own s' c ≠ 0 -> (app e us).own s' c = e.own s' c /\ (s' = s -> cs'[c]? = cs[c]?))
    (hv : ∀ s', (app e us).vals s' = e.vals s') (hal : ∀ s', (app e us).al s' = e.al s') (hh : (app e us).heap = e.heap) :
    Rel cx g (app (app e us) [.val s (.box k x')]) a w' := by
  obtain ⟨b', cs0, E0, p1, p2, p3, p4, p5, p6⟩ := h.boxAt hx;have hbb : b' = b := by rw [hp] at p1; injection p1 with p1; injection p1 with p1; injection p1 with p1; exact p1.symm
  subst hbb;have hlt := zL p5;have kp : Keeps g.F w g.F w' := st.keeps (fun _ _ => rfl) (fun k u hc _ => by have := hc 0 p3; omega);have hcs : cs = cs0 /\ E = E0 := by have := st.was; rw [p5] at this; injection this with this; injection this with e1 e2; exact ⟨e1.symm, e2.symm⟩
  obtain ⟨rfl, rfl⟩ := hcs;have kpt : Kept cx.F cx.hk cx.yk cx.W w' := h.kept.stored st (fun hb => by
    by_cases h2 : b' ∈ cx.yk
    · refine .inr ⟨h2, ?_⟩
      rcases h.fext b' hb with h3 | ⟨_, m, m', h3, h4, h5⟩
      · exact ⟨0, by rw [<- h3, p3], fun j hj => by omega⟩
      · rw [p3] at h4; injection h4 with h4; subst h4
        have : m = 0 := by omega
        subst this;exact ⟨0, h3, fun j hj => by omega⟩
    · rcases h.old b' hb h2 with h3 | ⟨h3, _⟩
      · rw [h3] at p2; cases p2
      · exact .inl h3)
  have hblk : ∀ b2 s2 q2, g.O b2 = .box s2 q2 -> (s2 ≠ s ∨ q2 ≠ k) -> w'.heap[b2]? = w.heap[b2]? := fun b2 s2 q2 hb hne => st.block b2 (fun e => by
    subst e; rw [p2] at hb; injection hb with e1 e2; exact hne.elim (fun h => h e1.symm) (fun h => h e2.symm))
  refine { size := h.size, defers := h.defers, kept := kpt, fext := h.fext, nbx := h.nbx, old := h.old, hkO := h.hkO, hkin := h.hkin, fresh := fun b hb => h.fresh b (by rw [<- st.size]; exact hb), freshO := fun b hb => h.freshO b (by rw [<- st.size]; exact hb),
           slots := fun s' => ?_, own := fun s' c sz v ho hpv => ?_, heap := ?_, heapO := ?_, al := ?_ }
  · simp only [app, app1]
    by_cases hs : s' = s
    · subst hs
      rw [zW];exact ⟨b', cs', E, hp, p2, p3, p4, st.now, hx'.mono kp⟩
    · rw [yQ _ _ hs, hv]
      have := h.slots s';cases hx2 : e.vals s' with
      | junk => trivial
      | undef => rw [hx2] at this; exact this
      | v a => rw [hx2] at this; exact Rep.mono this kp
      | box q a' =>
        rw [hx2] at this;obtain ⟨b2, cs2, E2, q1, q2, q3, q4, q5, q6⟩ := this;exact ⟨b2, cs2, E2, q1, q2, q3, q4, by rw [hblk b2 s' q q2 (.inl hs)]; exact q5, q6.mono kp⟩
      | adB s2 q off => rw [hx2] at this; exact this
      | adE l =>
        rw [hx2] at this;obtain ⟨b2, off, h1, h2⟩ := this;exact ⟨b2, off, h1, fun j c hj => let ⟨u, p1, p2, p3, p4⟩ := h2 j c hj; ⟨u, (kp.cell b2 _ u p1 p2).1, (kp.cell b2 _ u p1 p2).2, p3.mono kp, p4⟩⟩
  · have ho' : (app e us).own s' c = sz + 1 := ho
    obtain ⟨h1, h2⟩ := hown s' c (by rw [ho']; omega);have hpv' : PlaceVal a w (e.vals s') s' c v := by
      simp only [app, app1] at hpv;by_cases hs : s' = s
      · subst hs
        rw [zW] at hpv;have h3 := PlaceVal.box_inv hpv hp;rw [World.cell_of_cells st.now, h2 rfl] at h3;rw [hx];exact ⟨b', hp, by rw [World.cell_of_cells st.was]; exact h3⟩
      · rw [yQ _ _ hs, hv] at hpv
        cases hx2 : e.vals s' with
        | v a' => rw [hx2] at hpv; exact hpv
        | box q a' =>
          rw [hx2] at hpv;obtain ⟨b2, cs2, E2, q1, q2, q3, q4, q5, q6⟩ := h.boxAt hx2;have h3 := PlaceVal.box_inv hpv q1;exact ⟨b2, q1, by rw [World.cell_of_heap (hblk b2 s' q q2 (.inl hs))] at h3; exact h3⟩
        | _ => rw [hx2] at hpv; exact hpv
    have ht := h.own s' c sz v (by rw [<- h1]; exact ho') hpv';refine ⟨?_, ht.2⟩;rcases ht.1 with h3 | h3 | ⟨b2, off, n, cap, cs2, E2, q1, q2, q3, q4, q5⟩
    · exact .inl h3
    · exact .inr (.inl h3)
    · by_cases hn : n = cap
      · exact .inr (.inl ⟨some ⟨b2, off, none⟩, n, by rw [q1, hn]⟩)
      · have hO := ht.2 b2 (by rw [q1]; simp [zV, hn])
        refine .inr (.inr ⟨b2, off, n, cap, cs2, E2, q1, q2, q3, ?_, q5⟩);rw [st.block b2 (fun e => by subst e; rw [p2] at hO; cases hO)];exact q4
  · have hkey : ∀ b2 ∈ keys e.heap, b2 ≠ b' := fun b2 hb2 he => by subst he; have := h.heapO _ hb2; rw [p2] at this; cases this
    have h1 : (app (app e us) [.val s (.box k x')]).heap = e.heap := hh;rw [h1];exact ⟨h.heap.nodup, h.heap.shut, fun x hx => (h.heap.ok x hx).grow kp (fun _ => st.block _ (hkey x.1 (List.mem_map.2 ⟨x, hx, rfl⟩)))⟩
  · have h1 : (app (app e us) [.val s (.box k x')]).heap = e.heap := hh
    rw [h1];exact h.heapO
  · intro b2 s2 hb2
    have h1 : (app (app e us) [.val s (.box k x')]).al s2 = (app e us).al s2 := rfl;rw [h1, hal];exact h.al b2 s2 hb2
theorem Rel.moveOwn {cx:Ctx} {g:G} {e:Env} {a:Act} {w:World} (h:Rel cx g e a w) {s c d c':Nat} (hne:¬(s=d/\c=c'))
  (hval:∀v,PlaceVal a w (e.vals d) d c' v->PlaceVal a w (e.vals s) s c v) :
  ∃g',Rel cx g' (app e [.own d c' (e.own s c),.own s c 0]) a w:=by
 refine⟨{F:=g.F,O:=fun b=>if g.O b = .tip s c then .tip d c' else g.O b},?_⟩;have hbox:∀b s' k,(if g.O b = .tip s c then Ow.tip d c' else g.O b) = .box s' k↔g.O b = .box s' k:=by
  intro b s' k;split
  ·rename_i h1;rw[h1];simp
  ·exact Iff.rfl
 have m:Mem g w {F:=g.F,O:=fun b=>if g.O b = .tip s c then .tip d c' else g.O b} w :=
  ⟨Keeps.refl _ _,fun b s' k hb=>⟨(hbox b s' k).2 hb,rfl,rfl⟩,fun b s' k hb => .inl ((hbox b s' k).1 hb)⟩
 refine {h with nbx:=fun b s' q hb ho=>by (simp only[] at ho;split at ho;(cases ho);exact h.nbx b s' q hb ho),hkin:=fun b hb ho=>?_,old:=fun b hb h1=>?_,freshO:=fun b hb=>?_,slots:=fun s'=>(h.slots s').mem m,own:=fun s' c2 sz v ho hp=>?_,heapO:=fun b hb=>?_,al:=fun b s' hb=>?_}
 ·rcases h.old b hb h1 with h2|⟨h2,h3⟩
  ·left;simp only[h2];simp
  ·right;exact⟨h2,by simp only[h3];simp⟩
 ·simp only[] at ho;split at ho
  ·cases ho
  ·exact h.hkin b hb ho
 ·simp only[h.freshO b hb];simp
 ·simp only[app,app1] at ho hp;by_cases h1:s'=s/\c2=c
  ·obtain⟨rfl,rfl⟩:=h1;simp at ho
  ·have ho2:(bif Nat.beq s' d && Nat.beq c2 c' then e.own s c else e.own s' c2)=sz+1:=by
    have:(Nat.beq s' s && Nat.beq c2 c)=false:=by
     by_cases h2:s'=s
     ·have:c2≠c:=fun e=>h1 ⟨h2,e⟩;simp[Nat.beq_ne this]
     ·simp[Nat.beq_ne h2]
    rw[this] at ho;simpa using ho
   by_cases h2:s'=d/\c2=c'
   ·obtain⟨rfl,rfl⟩:=h2;simp at ho2;have ht:=h.own s c sz v ho2 (hval v hp);exact⟨ht.1,fun b hb=>by simp only[ht.2 b hb,if_true]⟩
   ·have ho3:e.own s' c2=sz+1:=by
     have:(Nat.beq s' d && Nat.beq c2 c')=false:=by
      by_cases h3:s'=d
      ·have:c2≠c':=fun e=>h2 ⟨h3,e⟩;simp[Nat.beq_ne this]
      ·simp[Nat.beq_ne h3]
     rw[this] at ho2;simpa using ho2
    have ht:=h.own s' c2 sz v ho3 hp;refine⟨ht.1,fun b hb=>?_⟩;have:=ht.2 b hb;simp only[this];rw[if_neg];intro he;injection he with e1 e2
    exact h1 ⟨e1,e2⟩
 ·have:=h.heapO b hb;simp only[this];simp
 ·exact h.al b s' ((hbox b s' 1).1 hb)
def Sub (m m':Nat):Prop := ∀k,m.testBit k=true->m'.testBit k=true
theorem Sub.refl (m:Nat):Sub m m:=fun _ h=>h
theorem Sub.or_left {a b m:Nat} (h:Sub (a ||| b) m):Sub a m:=fun k hk=>h k (by simp[Nat.testBit_or,hk])
theorem Sub.or_right {a b m:Nat} (h:Sub (a ||| b) m):Sub b m:=fun k hk=>h k (by simp[Nat.testBit_or,hk])
theorem Sub.inl {a b:Nat}:Sub a (a ||| b):=fun k hk=>by simp[Nat.testBit_or,hk]
theorem Sub.inr {a b:Nat}:Sub b (a ||| b):=fun k hk=>by simp[Nat.testBit_or,hk]
theorem Sub.trans {a b c:Nat} (h:Sub a b) (k:Sub b c):Sub a c:=fun i hi=>k i (h i hi)
theorem Sub.or {a b m:Nat} (h:Sub a m) (k:Sub b m):Sub (a ||| b) m:=fun i hi=>by
 rw[Nat.testBit_or,Bool.or_eq_true] at hi;exact hi.elim (h i) (k i)
theorem Sub.zero (m:Nat):Sub 0 m:=fun k hk=>by simp at hk
theorem qO (s:Nat):(bV s).testBit (4*s)=true:=by simp[bV]
theorem qW (s:Nat):(bO s).testBit (4*s+1)=true:=by simp[bO]
theorem zNE (s:Nat):(bZ s).testBit (4*s+2)=true:=by simp[bZ]
def nf:SV->SV
 | .v (.sb b) => .v (.lit (.bool b))
 | x=>x
theorem zAN {g:G} {w:World} {s:Nat} {x:SV} {v:Value}:SlotOk g w s (nf x) v↔SlotOk g w s x v:=by
 cases x with
 | v a =>
  cases a with
  | sb b =>
   constructor
   ·intro h;obtain⟨h1,h2⟩:=Rep.lit_eq h;rw[h1];exact Rep.sb b
   ·intro h;rw[Rep.sb_eq h];exact Rep.lit _ rfl
  | _=>exact Iff.rfl
 | _=>exact Iff.rfl
structure Agree (m:Nat) (e e':Env):Prop where
 val:∀s,m.testBit (4*s)=true->nf (e.vals s)=nf (e'.vals s)
 own:∀s c,m.testBit (4*s+1)=true->e.own s c=e'.own s c
 al:∀s,m.testBit (4*s+2)=true->e.al s=e'.al s
 heap:m.testBit 3=true->e.heap=e'.heap
theorem Agree.refl (m:Nat) (e:Env):Agree m e e:=⟨fun _ _=>rfl,fun _ _ _=>rfl,fun _ _=>rfl,fun _=>rfl⟩
section
variable {m:Nat} {e e':Env} {cx:Ctx} {g:G} {a:Act} {w:World}
theorem Agree.slot (h:Agree m e e') (hR:Rel cx g e' a w) {s:Nat} (hb:Sub (bV s) m):SlotOk g w s (e.vals s) (a.tmps.getD s undef):=by
 have:=hR.slots s;rw[<-zAN,<-h.val s (hb _ (qO s)),zAN] at this;exact this
theorem zXF {x:SV} {k:Nat} {y:AV} (h:nf x=nf (.box k y)):x = .box k y:=by
 cases x with
 | v a=>cases a<;>simp[nf] at h
 | box g y=>simpa[nf] using h
 | _=>simp[nf] at h
theorem Agree.box (h:Agree m e e') {s k:Nat} {x:AV} (hb:Sub (bV s) m) (hx:e.vals s = .box k x):e'.vals s = .box k x :=
 zXF (by rw[<-h.val s (hb _ (qO s)),hx])
theorem zOM {F:Nat->Option Nat} {v:Value} {y:AV} (h:zNC v = .v y):Rep F w v y:=by
 unfold zNC at h;split at h
 ·injection h with h;subst h;exact .nil
 ·cases h
 ·cases h
 ·rename_i hn1 hn2 hn3;injection h with h;subst h
  exact .lit v (by cases v<;>first|rfl|exact absurd rfl (hn2 _)|exact absurd rfl (hn3 _))
theorem zF (h:Agree m e e') (hR:Rel cx g e' a w) {x:Operand} {y:AV} (hb:Sub (zJ x) m) (hx:opd e x = .v y):Rep g.F w (a.eval x) y:=by
 cases x with
 | tmp t =>
  have:=h.slot hR (s:=t) hb;simp only[opd] at hx;rw[hx] at this;exact this
 | const v=>exact zOM hx
 | func f=>simp only[opd] at hx;injection hx with hx;subst hx;exact .lit _ rfl
 | global q=>simp only[opd] at hx;injection hx with hx;subst hx;exact .lit _ rfl
theorem zT1 {F:Nat->Option Nat} {v:Value} {y:AV} (h:Rep F w v y):Rep F w v (wk1 y):=by
 unfold wk1;split
 ·exact h.nil_sl
 ·rw[h.lit_eq.1];exact .sb _
 ·exact h
theorem zJN (y:AV):(wk1 y).isCell=y.isCell:=by
 unfold wk1;split<;>rfl
theorem zUV {F:Nat->Option Nat} {v:Value} {y:AV} (h:Rep F w v y):Rep F w v (zLY y):=by
 unfold zLY;split
 ·exact h.nil_sl
 ·rw[h.lit_eq.1];exact .sb _
 ·rename_i l;obtain⟨cs,rfl,hl,hcl,hr⟩:=h.agg_eq;refine .agg cs _ (by simpa using hl) (fun c hc=>?_) (fun j u c hu hc=>?_)
  ·obtain⟨c',hc',rfl⟩:=List.mem_map.1 hc;rw[zJN];exact hcl c' hc'
  ·rw[List.getElem?_map] at hc;cases hlj:l[j]? with
   | none=>rw[hlj] at hc;simp at hc
   | some c'=>rw[hlj] at hc;simp at hc;subst hc;exact zT1 (hr j u c' hu hlj)
 ·exact h
theorem wG {F:Nat->Option Nat} {v:Value} {y:AV} (h:Rep F w v y):Rep F w v (wk y):=by
 unfold wk;cases zM0 y
 ·exact h
 ·exact zUV h
theorem zFV (h:Agree m e e') (hR:Rel cx g e' a w):∀{xs:List Operand} {ys:List AV},Sub (zG xs) m->opds e xs=some ys ->
  ys.length=xs.length/\∀(i:Nat) v y,(xs.map a.eval)[i]? = some v->ys[i]? = some y->Rep g.F w v y
 | [],ys,_,hx=>by simp only[opds,Option.some.injEq] at hx;subst hx;exact⟨rfl,fun i v y hv _=>by simp at hv⟩
 | o::r,ys,hb,hx=>by
  simp only[opds] at hx;cases ho:opd e o with
  | v a' =>
   rw[ho] at hx;cases hr:opds e r with
   | none=>rw[hr] at hx;simp at hx
   | some l =>
    rw[hr] at hx;simp only[Option.some.injEq] at hx;subst hx;obtain⟨h1,h2⟩:=zFV h hR hb.or_right hr;refine⟨by simp[h1],fun i v y hv hy=>?_⟩
    match i with
    | 0=>simp at hv hy;subst hv;subst hy;exact wG (zF h hR hb.or_left ho)
    | i+1=>simp at hv hy;exact h2 i v y (by simpa using hv) hy
  | _=>rw[ho] at hx;simp at hx
end
section
variable {P:Program} {T:TT} {hp:Bool} {arr:Array Oper}
def Runs (P:Program) (hp:Bool) (arr:Array Oper) (o:Oper) (e:Env) (u:List U):Prop :=
 ∀cx e' g a w,(∀d,o.dst=some d->d<cx.n)->Agree (rd arr.toList hp o) e e'->Rel cx g e' a w->∀(K:Act->World->Prop) (Q:Exit->Act->World->Prop),
  (∀g' a' w',Rel cx g' (app e' u) a' w'->K a' w')->o.wp P a w K Q
theorem zU {o:Oper} {a:Act} {w w':World} {v:Value} {K:Act->World->Prop} {Q:Exit->Act->World->Prop} (h:(execOp a.eval o).run P w = .ok (.value v) w') (hK:K (a.put o.dst v) w'):o.wp P a w K Q:=by
 unfold Oper.wp;rw[h];exact hK
theorem wp_skip {o:Oper} {a:Act} {w w':World} {K:Act->World->Prop} {Q:Exit->Act->World->Prop} (h:(execOp a.eval o).run P w = .ok .skip w') (hK:K (a.put o.dst undef) w'):o.wp P a w K Q:=by
 unfold Oper.wp;rw[h];exact hK
theorem Rel.putU {cx:Ctx} {g:G} {e:Env} {a:Act} {w:World} (h:Rel cx g e a w) {d:Option Nat} (hd:∀d',d=some d'->d'<cx.n) {x:SV} {v:Value} (hx:∀d,SlotOk g w d x v) :
  Rel cx g (app e (putU d x)) (a.put d v) w:=by
 cases d with
 | none=>exact h.putNone v
 | some d=>exact h.put (hd d rfl) (hx d)
theorem zR5 {o:Oper} {e:Env} {x:SV}
  (hf:∀cx e' g a w,Agree (rd arr.toList hp o) e e'->Rel cx g e' a w->∃v w',(execOp a.eval o).run P w = .ok (.value v) w'/\Grow w w'/\∀d,SlotOk g w' d x v) :
  Runs P hp arr o e (putU o.dst x):=by
 intro cx e' g a w hd hag hR K Q hK;obtain⟨v,w',h1,h2,h3⟩:=hf cx e' g a w hag hR;exact zU h1 (hK g _ _ ((hR.grow h2).putU hd h3))
theorem zZ (d:Option Nat) (x:SV):wrU (putU d x)=yI d:=by cases d<;>simp[putU,wrU,yI]
theorem zI5 (o:Oper):Sub (yI o.dst) (wr arr.toList hp o):=Sub.inl
def Does (P:Program) (hp:Bool) (arr:Array Oper) (o:Oper) (e:Env) (k:List U->Prop):Prop := ∃u,Runs P hp arr o e u/\Sub (wrU u) (wr arr.toList hp o)/\k u
theorem zH {o:Oper} {e:Env} {x:SV} {k:List U->Prop} (hk:k (putU o.dst x))
  (hf:∀cx e' g a w,Agree (rd arr.toList hp o) e e'->Rel cx g e' a w->∃v w',(execOp a.eval o).run P w = .ok (.value v) w'/\Grow w w'/\∀d,SlotOk g w' d x v):Does P hp arr o e k :=
 ⟨putU o.dst x,zR5 hf,by rw[zZ];exact zI5 o,hk⟩
theorem zHV {o:Oper} {x:Operand} {e:Env} {k:List U->Prop} (hx:∀a:Act,∀w,(execOp a.eval o).run P w = .ok (.value (a.eval x)) w)
  (hr:Sub (zJ x) (rd arr.toList hp o)) (hr2:hands arr.toList o=true->Sub (jD x) (rd arr.toList hp o)) (hw:hands arr.toList o=true->Sub (jD x) (wr arr.toList hp o))
  (h:zHB arr.toList o x e k):Does P hp arr o e k:=by
 unfold zHB at h;cases ho:opd e x with
 | v a =>
  rw[ho] at h;simp only[] at h;have plain:k (putU o.dst (.v a))->Does P hp arr o e k:=fun hk=>zH hk fun cx e' g a' w hag hR =>
   ⟨_,w,hx a' w,Grow.refl w,fun _=>zF hag hR hr ho⟩
  split at h
  ·rename_i s d hh hd;cases hsd:Nat.beq s d with
   | true=>rw[hsd] at h;exact h.elim
   | false =>
    rw[hsd] at h;have hne:s≠d:=fun e=>by subst e;simp at hsd
    refine⟨_,fun cx e' g a' w hdn hag hR K Q hK=>zU (hx a' w) ?_,?_,h⟩
    ·have hdd:=hdn d hd;have h1:=hR.put hdd (x := .v a) (v:=a'.eval (.tmp s)) (zF hag hR hr ho);rw[hd];have hs:e.vals s = .v a:=ho;obtain⟨g',h2⟩:=h1.moveOwn (s:=s) (c:=0) (d:=d) (c':=0) (fun hh=>hne hh.1) (fun v hv=>by
      have hvd:(app e' [.val d (.v a),.clr d]).vals d = .v a:=by simp only[app,app1];exact zW _ _ _
      rw[hvd] at hv;obtain⟨_,hv⟩:=hv;rw[yK (by rw[hR.size];exact hdd)] at hv;have hvs:(app e' [.val d (.v a),.clr d]).vals s=e'.vals s:=by simp only[app,app1];exact yQ _ _ hne
      rw[hvs];have hn:=hag.val s (hr _ (qO s));rw[hs] at hn;cases hes:e'.vals s with
      | v a2=>exact⟨rfl,by rw[qH hne];exact hv⟩
      | _=>rw[hes] at hn;cases a<;>simp[nf] at hn)
     refine hK g' _ _ ?_;have heq:app e' [.val d (.v a),.clr d,.own d 0 (e.own s 0),.own s 0 0]=app (app e' [.val d (.v a),.clr d]) [.own d 0 ((app e' [.val d (.v a),.clr d]).own s 0),.own s 0 0]:=by
      have:(app e' [.val d (.v a),.clr d]).own s 0=e.own s 0:=by
       simp only[app,app1,Nat.beq_ne hne,cond_false];exact (hag.own s 0 (hr2 hh _ (qW s))).symm
      rw[this];rfl
     rw[heq];exact h2
    ·have hwr:=zI5 (hp:=hp) (arr:=arr) o;rw[hd] at hwr;simp only[wrU];refine .or (hwr.or_left) (.or (hwr.or_right) (.or hwr.or_right (.or (hw hh) (Sub.zero _))))
  ·exact plain h
 | _=>rw[ho] at h;exact h.elim
theorem zG4 {a b:IntKind} (h:zDN a b=true):a=b:=by cases a<;>cases b<;>first|rfl|cases h
theorem wO {F:Nat->Option Nat} {w:World} {v:Value} {a:AV} {b:Bool} (h:zBN a=some b) (hr:Rep F w v a):v = .bool b:=by
 cases a with
 | sb c=>simp only[zBN,Option.some.injEq] at h;subst h;exact hr.sb_eq
 | lit u =>
  cases u<;>simp only[zBN,reduceCtorEq,Option.some.injEq] at h
  subst h;exact hr.lit_eq.1
 | _=>simp[zBN] at h
theorem zV2 {op:BinOp} {t:TypeId} {ka:IntKind} {x y:Int} {k:AV->Prop} (h:arith op ka x y k) :
  ∃r v,k r/\(∀w,(binOp op t (.int ka x) (.int ka y)).run P w = .ok v w)/\∀(F:Nat->Option Nat) w,Rep F w v r:=by
 have cmp:∀(b:Bool),k (.sb b)->(∀w,(binOp op t (.int ka x) (.int ka y)).run P w = .ok (.bool b) w)->∃r v,k r/\(∀w,(binOp op t (.int ka x) (.int ka y)).run P w = .ok v w)/\∀(F:Nat->Option Nat) w,Rep F w v r :=
  fun b hk hr=>⟨_,_,hk,hr,fun F w => .sb b⟩
 unfold arith at h;split at h
 ·exact⟨_,_,h,fun w=>by simp[binOp,Op.intArith],fun F w => .lit _ rfl⟩
 ·exact⟨_,_,h,fun w=>by simp[binOp,Op.intArith],fun F w => .lit _ rfl⟩
 ·exact⟨_,_,h,fun w=>by simp[binOp,Op.intArith],fun F w => .lit _ rfl⟩
 ·exact cmp _ h fun w=>by simp[binOp,Op.intCmp];rfl
 ·exact cmp _ h fun w=>by simp[binOp,Op.intCmp,bne];rfl
 ·exact cmp _ h fun w=>by simp[binOp,Op.intCmp]
 ·exact cmp _ h fun w=>by simp[binOp,Op.intCmp]
 ·exact cmp _ h fun w=>by simp[binOp,Op.intCmp]
 ·exact cmp _ h fun w=>by simp[binOp,Op.intCmp]
 ·exact⟨_,_,h.2,fun w=>by simp[binOp,Op.intDiv,h.1],fun F w => .lit _ rfl⟩
 ·exact⟨_,_,h.2,fun w=>by simp[binOp,Op.intDiv,h.1],fun F w => .lit _ rfl⟩
 ·exact h.elim
theorem toList_beq (a b:ByteArray):(a.toList == b.toList)=decide (a=b):=by
 rw[Bool.eq_iff_iff,beq_iff_eq,decide_eq_true_iff,ByteArray.toList_eq,ByteArray.toList_eq];exact⟨fun h=>by cases a;cases b;exact congrArg ByteArray.mk (Array.toList_inj.1 h),fun h=>by rw[h]⟩
theorem zV3 {op:BinOp} {t:TypeId} {x y:ByteArray} {k:AV->Prop} (h:zZ7 op x y k) :
  ∃r v,k r/\(∀w,(binOp op t (.string x) (.string y)).run P w = .ok v w)/\∀(F:Nat->Option Nat) w,Rep F w v r:=by
 unfold zZ7 at h;split at h
 ·refine⟨_,_,h.2,fun w=>?_,fun F w => .lit _ rfl⟩;have:¬(((x.size+y.size:Nat):Int) > IntKind.i64.max):=by
   have:=h.1;simp[IntKind.max,IntKind.signed,IntKind.bits];omega
  simp only[binOp,Op.stringOp,this,if_false,Sem.run_pure]
 ·exact⟨_,_,h,fun w=>by simp[binOp,Op.stringOp,toList_beq],fun F w => .sb _⟩
 ·exact⟨_,_,h,fun w=>by simp[binOp,Op.stringOp,toList_beq],fun F w => .sb _⟩
 ·exact h.elim
end
end Fp
