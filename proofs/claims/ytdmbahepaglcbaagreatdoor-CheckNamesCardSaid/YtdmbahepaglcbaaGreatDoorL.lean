/- Steps that may each be taken. Plain. No condition. -/
import Derived.Test.YtdmbahepaglcbaaGreatDoorK
set_option linter.unusedSimpArgs false
set_option linter.unusedVariables false
namespace Go.Proofs.YtdmbahepaglcbaaGreatDoor
open Go Fp
set_option linter.unusedVariables false
theorem row_of {σ:Type} (I:Nat->σ->Prop) (R:Nat->σ->σ->Prop) (s0:σ) (h0:I 0 s0):∀m,(∀k s,k<m->I k s->∃s',R k s s'/\I (k+1) s')->∃st:Nat->σ,st 0=s0/\(∀k,k<m->R k (st k) (st (k+1)))/\∀k,k<=m->I k (st k):=by
 intro m;induction m with
 | zero =>
  intro _;refine⟨fun _=>s0,rfl,fun k hk=>absurd hk (Nat.not_lt_zero k),fun k hk=>?_⟩;have hk0:k=0:=by omega
  subst hk0;exact h0
 | succ m ih =>
  intro hs;obtain⟨st,e0,hR,hI⟩:=ih fun k s hk hi=>hs k s (by omega) hi;obtain⟨s',r1,r2⟩:=hs m (st m) (by omega) (hI m (Nat.le_refl _));refine⟨fun k=>if k<=m then st k else s',?_,fun k hk=>?_,fun k hk=>?_⟩
  ·show (if 0<=m then st 0 else s')=s0;rw[if_pos (Nat.zero_le _),e0]
  ·show R k (if k<=m then st k else s') (if k+1<=m then st (k+1) else s');rw[if_pos (by omega)];by_cases h:k+1<=m
   ·rw[if_pos h];exact hR k (by omega)
   ·rw[if_neg h];have:k=m:=by omega
    subst this;exact r1
  ·show I k (if k<=m then st k else s');by_cases h:k<=m
   ·rw[if_pos h];exact hI k h
   ·rw[if_neg h];have:k=m+1:=by omega
    subst this;exact r2
set_option maxRecDepth 10000
set_option maxHeartbeats 8000000
def W18:List ByteArray := .empty::(nm18++cn18++pm18++xY)
def Cr.Pk:Cr->Prop
 | .nil=>True
 | .node f n s t g=>(1<=f/\f<=11)/\(-3<=n/\n<100/\(f=1->n=0))/\s∈W18/\(good t∨t = .no/\f≠5/\f≠6/\f≠9/\f≠11)/\g.Pk
 | .kid p r=>p.Pk/\r.Pk
 | .bind x t p r=>x∈W18/\good t/\p.Pk/\r.Pk
 | .alt f n s vs p r=>(1<=f/\f<=3)/\(0<=n/\n<100)/\s∈W18/\(∀v∈vs,v∈W18)/\p.Pk/\r.Pk
theorem nmW {s:ByteArray} (h:s∈nm18):s∈W18:=List.mem_cons_of_mem _ (List.mem_append_left _ (List.mem_append_left _ (List.mem_append_left _ h)))
theorem cnW {s:ByteArray} (h:s∈cn18):s∈W18:=List.mem_cons_of_mem _ (List.mem_append_left _ (List.mem_append_left _ (List.mem_append_right _ h)))
theorem pmW {s:ByteArray} (h:s∈pm18):s∈W18:=List.mem_cons_of_mem _ (List.mem_append_left _ (List.mem_append_right _ h))
theorem s4W {s:ByteArray} (h:s∈xY):s∈W18:=List.mem_cons_of_mem _ (List.mem_append_right _ h)
theorem emW:ByteArray.empty∈W18:=List.mem_cons_self
def bud (n:Int):Nat:=(n-1).toNat
structure CorOk (l:List Int) (n:Int) (c:Cr) (l':List Int) (n':Int):Prop where
 isN:c.isN=true
 ok:c.Ok
 low:c.LowC 2000
 pk:c.Pk
 le:l'.length<=l.length
 nums:Nums l'
 dn:n'<=n
 wt:c.wt<=2+6*(bud n-bud n')+5*(l.length-l'.length)
 zb:c.sz<=1+4*(bud n-bud n')
 zl:c.sz<=1+4*(l.length-l'.length)
theorem zMC {l:List Int} {n:Int} (hl:Nums l) {f i:Int} {s:ByteArray} (hf:f=1∨f=2∨f=3) (hi : -3<=i/\i<100/\(f=1->i=0)) (hs:s∈W18):CorOk l n (.node f i s .no .nil) (l.drop 1) (n-1):=by
 refine⟨rfl,?_,⟨trivial,trivial⟩,⟨by omega,hi,hs,.inr ⟨rfl,by omega,by omega,by omega,by omega⟩,trivial⟩,by simp,hl.drop,by omega,by simp only[Cr.wt,Tp.sz];omega,by simp only[Cr.sz];omega,by simp only[Cr.sz];omega⟩;refine⟨rfl,fun _=>⟨rfl,rfl⟩,fun _=>rfl,?_,fun h=>absurd rfl h,fun h=>absurd rfl h,List.nodup_nil,trivial⟩;rcases hf with rfl|rfl|rfl<;>rfl
def Fine (c:Cr):Prop:=c.isN=true/\c.Ok/\c.LowC 2000/\c.Pk
def z8S (h:Int×Int×ByteArray):Prop:=(1<=h.1/\h.1<=3)/\(0<=h.2.1/\h.2.1<100)/\h.2.2∈W18
def wB:List Bdg->Nat
 | []=>0
 | b::bs=>1+b.2.1.sz+b.2.2.wt+wB bs
def wA:List Alg->Nat
 | []=>0
 | a::bs=>1+a.2.1.length+a.2.2.wt+wA bs
def zB:List Bdg->Nat
 | []=>0
 | b::bs=>b.2.2.sz+zB bs
def zA:List Alg->Nat
 | []=>0
 | a::bs=>a.2.2.sz+zA bs
theorem zPT (bs:List Bdg) (b:Bdg):zB (bs++[b])=zB bs+b.2.2.sz:=by
 induction bs with
 | nil=>simp[zB]
 | cons a bs ih=>simp only[List.cons_append,zB,ih];omega
theorem zPH (bs:List Alg) (b:Alg):zA (bs++[b])=zA bs+b.2.2.sz:=by
 induction bs with
 | nil=>simp[zA]
 | cons a bs ih=>simp only[List.cons_append,zA,ih];omega
theorem z9H (bs:List Bdg):(lst [] bs []).sz=zB bs:=by
 induction bs with
 | nil=>rfl
 | cons b bs ih=>exact congrArg (b.2.2.sz + ·) ih
theorem z8M (bs:List Alg):(lst [] [] bs).sz=zA bs:=by
 induction bs with
 | nil=>rfl
 | cons b bs ih=>exact congrArg (b.2.2.sz + ·) ih
theorem z7B (p:Cr) (bs:List Bdg):(Cr.node 8 0 .empty .no (lst [p] bs [])).sz=1+(p.sz+zB bs):=congrArg (fun k=>1+(p.sz+k)) (z9H bs)
theorem zX4 (p:Cr) (t:Tp) (bs:List Alg):(Cr.node 9 0 .empty t (lst [p] [] bs)).sz=1+(p.sz+zA bs):=congrArg (fun k=>1+(p.sz+k)) (z8M bs)
theorem zZJ (bs:List Bdg) (b:Bdg):wB (bs++[b])=wB bs+(1+b.2.1.sz+b.2.2.wt):=by
 induction bs with
 | nil=>simp[wB]
 | cons a bs ih=>simp only[List.cons_append,wB,ih];omega
theorem z0S (bs:List Alg) (b:Alg):wA (bs++[b])=wA bs+(1+b.2.1.length+b.2.2.wt):=by
 induction bs with
 | nil=>simp[wA]
 | cons a bs ih=>simp only[List.cons_append,wA,ih];omega
theorem z9P (bs:List Bdg) (hb:∀b∈bs,(b.1∈W18/\good b.2.1/\zGG 2000 b.2.1)/\Fine b.2.2):(lst [] bs []).isN=false/\(lst [] bs []).Ok/\(lst [] bs []).LowC 2000/\(lst [] bs []).Pk/\(lst [] bs []).wt=wB bs:=by
 induction bs with
 | nil=>exact⟨rfl,trivial,trivial,trivial,rfl⟩
 | cons b bs ih =>
  obtain⟨h1,h2,h3,hp,h4⟩:=ih fun x hx=>hb x (List.mem_cons_of_mem _ hx);obtain⟨⟨u1,u2,u3⟩,t2,t3,t4,t5⟩:=hb b List.mem_cons_self;exact⟨rfl,⟨t2,h1,(zBP [] bs []).1,t3,h2⟩,⟨u3,t4,h3⟩,⟨u1,u2,t5,hp⟩,congrArg (1+b.2.1.sz+b.2.2.wt + ·) h4⟩
theorem zbB (bs:List Alg) (hb:∀b∈bs,(z8S b.1/\b.2.1.Nodup/\∀v∈b.2.1,v∈W18)/\Fine b.2.2):(lst [] [] bs).isN=false/\(lst [] [] bs).Ok/\(lst [] [] bs).LowC 2000/\(lst [] [] bs).Pk/\(lst [] [] bs).wt=wA bs:=by
 induction bs with
 | nil=>exact⟨rfl,trivial,trivial,trivial,rfl⟩
 | cons b bs ih =>
  obtain⟨h1,h2,h3,hp,h4⟩:=ih fun x hx=>hb x (List.mem_cons_of_mem _ hx);obtain⟨⟨u1,u2,u3⟩,t2,t3,t4,t5⟩:=hb b List.mem_cons_self;exact⟨rfl,⟨t2,h1,(zBP [] [] bs).1,(zBP [] [] bs).2.1,u2,t3,h2⟩,⟨t4,h3⟩,⟨u1.1,u1.2.1,u1.2.2,u3,t5,hp⟩,congrArg (1+b.2.1.length+b.2.2.wt + ·) h4⟩
theorem z3I {p:Cr} {bs:List Bdg} (hp:Fine p) (hb:∀b∈bs,(b.1∈W18/\good b.2.1/\zGG 2000 b.2.1)/\Fine b.2.2) (hn:(bs.map (·.1)).Nodup):Fine (.node 8 0 .empty .no (lst [p] bs []))/\(Cr.node 8 0 .empty .no (lst [p] bs [])).wt=2+p.wt+wB bs:=by
 obtain⟨h1,h2,h3,hk,h4⟩:=z9P bs hb;obtain⟨q1,q2,q3,_⟩:=zBP [p] bs [];refine⟨⟨rfl,⟨rfl,fun h=>absurd h (by decide),fun h=>rfl,by rw[q1];rfl,fun _=>rfl,fun h=>absurd q3 h,by rw[q2];exact hn,hp.1,h1,hp.2.1,h2⟩,⟨trivial,hp.2.2.1,h3⟩,⟨by decide,by decide,emW,.inr ⟨rfl,by decide⟩,hp.2.2.2,hk⟩⟩,?_⟩;show 1+Tp.no.sz+(p.wt+(lst [] bs []).wt)=_;rw[h4];simp only[Tp.sz];omega
theorem zY9 {p:Cr} {t:Tp} {bs:List Alg} (ht:good t/\zGG 2000 t) (hp:Fine p) (hb:∀b∈bs,(z8S b.1/\b.2.1.Nodup/\∀v∈b.2.1,v∈W18)/\Fine b.2.2):Fine (.node 9 0 .empty t (lst [p] [] bs))/\(Cr.node 9 0 .empty t (lst [p] [] bs)).wt=1+t.sz+p.wt+wA bs:=by
 obtain⟨h1,h2,h3,hk,h4⟩:=zbB bs hb;obtain⟨q1,q2,q3,_⟩:=zBP [p] [] bs;refine⟨⟨rfl,⟨rfl,fun h=>absurd h (by decide),fun h=>absurd h (by decide),by rw[q1];rfl,fun h=>absurd q2 h,fun _=>rfl,by rw[q2];exact List.nodup_nil,hp.1,h1,hp.2.1,h2⟩,⟨ht.2,hp.2.2.1,h3⟩,⟨by decide,by decide,emW,.inl ht.1,hp.2.2.2,hk⟩⟩,?_⟩;show 1+t.sz+(p.wt+(lst [] [] bs).wt)=_;rw[h4];omega
theorem z7Z {f:Int} {s:ByteArray} {p q:Cr} (hs:s∈W18) (hf:f=4∨f=10) (hp:Fine p) (hq:Fine q):Fine (.node f 0 s .no (.kid p (.kid q .nil)))/\(Cr.node f 0 s .no (.kid p (.kid q .nil))).wt=2+p.wt+q.wt:=by
 refine⟨⟨rfl,⟨rfl,fun h=>?_,fun h=>rfl,?_,fun h=>absurd rfl h,fun h=>absurd rfl h,List.nodup_nil,hp.1,rfl,hp.2.1,hq.1,rfl,hq.2.1,trivial⟩,⟨trivial,hp.2.2.1,hq.2.2.1,trivial⟩,⟨by omega,⟨by decide,by decide,fun _=>rfl⟩,hs,.inr ⟨rfl,by omega,by omega,by omega,by omega⟩,hp.2.2.2,hq.2.2.2,trivial⟩⟩,?_⟩
 ·rcases hf with rfl|rfl<;>exact absurd h (by decide)
 ·rcases hf with rfl|rfl<;>rfl
 ·simp only[Cr.wt,Tp.sz];omega
theorem zTL {f:Int} {s:ByteArray} {t:Tp} {p:Cr} (hs:s∈W18) (hf:(f=5∨f=6)/\good t∨f=7/\t = .no) (ht:zGG 2000 t) (hp:Fine p):Fine (.node f 0 s t (.kid p .nil))/\(Cr.node f 0 s t (.kid p .nil)).wt=1+t.sz+p.wt:=by
 refine⟨⟨rfl,⟨rfl,fun h=>?_,fun h=>?_,?_,fun h=>absurd rfl h,fun h=>absurd rfl h,List.nodup_nil,hp.1,rfl,hp.2.1,trivial⟩,⟨ht,hp.2.2.1,trivial⟩,⟨by omega,⟨by decide,by decide,fun _=>rfl⟩,hs,hf.elim (fun h => .inl h.2) (fun h => .inr ⟨h.2,by omega,by omega,by omega,by omega⟩),hp.2.2.2,trivial⟩⟩,?_⟩
 ·rcases hf with⟨rfl|rfl,_⟩|⟨rfl,_⟩<;>exact absurd h (by decide)
 ·rcases hf with⟨rfl|rfl,_⟩|⟨rfl,e⟩
  ·exact absurd h (by decide)
  ·exact absurd h (by decide)
  ·exact e
 ·rcases hf with⟨rfl|rfl,_⟩|⟨rfl,_⟩<;>rfl
 ·simp only[Cr.wt];omega
theorem zZN {t:Tp} (ht:good t/\zGG 2000 t):Fine (.node 11 0 .empty t .nil)/\(Cr.node 11 0 .empty t .nil).wt=1+t.sz:=by
 refine⟨⟨rfl,⟨rfl,fun h=>absurd h (by decide),fun h=>absurd h (by decide),rfl,fun h=>absurd rfl h,fun h=>absurd rfl h,List.nodup_nil,trivial⟩,⟨ht.2,trivial⟩,⟨by decide,by decide,emW,.inl ht.1,trivial⟩⟩,?_⟩;simp only[Cr.wt];omega
theorem CorOk.fine {l:List Int} {n:Int} {c:Cr} {l':List Int} {n':Int} (h:CorOk l n c l' n'):Fine c:=⟨h.isN,h.ok,h.low,h.pk⟩
theorem CorOk.of {l:List Int} {n:Int} {c:Cr} {l':List Int} {n':Int} (h:Fine c) (le:l'.length<=l.length) (nums:Nums l') (dn:n'<=n) (wt:c.wt<=2+6*(bud n-bud n')+5*(l.length-l'.length)) (zb:c.sz<=1+4*(bud n-bud n')) (zl:c.sz<=1+4*(l.length-l'.length)):CorOk l n c l' n':=⟨h.1,h.2.1,h.2.2.1,h.2.2.2,le,nums,dn,wt,zb,zl⟩
def cF:Nat->Nat
 | 0=>1
 | k+1=>1+4*cF k
end Go.Proofs.YtdmbahepaglcbaaGreatDoor
