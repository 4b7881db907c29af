/- CoreMakes: what the law asks is so. No condition but that what is given is Go's. -/
import Derived.Test.YtdmbahepaglcbaaGreatDoorZ
import Derived.Test.YtdmbahepaglcbaaGreatDoorY
import Derived.Test.YtdmbahepaglcbaaGreatDoorFpM
set_option linter.unusedSimpArgs false
set_option linter.unusedVariables false
namespace Go.Proofs.YtdmbahepaglcbaaGreatDoor
open Go Fp
set_option maxRecDepth 10000
set_option maxHeartbeats 16000000
set_option linter.unusedVariables false
def fvD:DC->List ByteArray
 | .fr s=>[s]
 | .node _ _ _ _ g=>fvD g
 | .kid p r=>zC no (fvD p) (fvD r)
 | .bind _ p r=>zC no (fvD p) (fvD r)
 | .alt _ _ _ _ p r=>zC no (fvD p) (fvD r)
 | _=>[]
theorem zGX {Q:ByteArray->Bool} (l:List ByteArray):∀out:List ByteArray,(zC no out l).filter Q=zC no (out.filter Q) (l.filter Q):=by
 induction l with
 | nil=>intro out;rfl
 | cons s l ih =>
  intro out;rw[wQ,ih];unfold ins;cases hq:Q s with
  | true =>
   rw[List.filter_cons_of_pos hq,wQ];unfold ins;by_cases hs:s∈out
   ·rw[if_pos (.inl hs),if_pos (.inl (List.mem_filter.2 ⟨hs,hq⟩))]
   ·rw[if_neg (by simp[hs,no]),if_neg (by simp[hs,no,List.mem_filter]),List.filter_append,List.filter_cons_of_pos hq];rfl
  | false =>
   rw[List.filter_cons_of_neg (by simp[hq])];by_cases hs:s∈out
   ·rw[if_pos (.inl hs)]
   ·rw[if_neg (by simp[hs,no]),List.filter_append,List.filter_cons_of_neg (by simp[hq])];simp
theorem zKV {P:ByteArray->Bool} (l:List ByteArray) (h:l.Nodup):zC P [] l=l.filter (fun y => !P y):=by
 have gen:∀(l out:List ByteArray),(out++l).Nodup->zC P out l=out++l.filter (fun y => !P y):=by
  intro l;induction l with
  | nil=>intro out _;simp[zC]
  | cons s l ih =>
   intro out hn;have hs:s∉out:=fun hm=>(List.nodup_append.1 hn).2.2 s hm s List.mem_cons_self rfl;rw[wQ];unfold ins;cases hp:P s with
   | true =>
    rw[if_pos (.inr rfl),List.filter_cons_of_neg (by simp[hp])];refine ih out ?_;have:=List.nodup_append.1 hn;exact List.nodup_append.2 ⟨this.1,(List.nodup_cons.1 this.2.1).2,fun a ha b hb=>this.2.2 a ha b (List.mem_cons_of_mem _ hb)⟩
   | false =>
    rw[if_neg (by simp[hs]),List.filter_cons_of_pos (by simp[hp]),ih (out++[s]) (by simpa using hn)];simp
 exact gen l [] (by simpa using h)
theorem zQ7 (c:Cr):∀(e d:List ByteArray),fvD (dbc c e d)=c.fv.filter (fun y => !memb y e):=by
 induction c with
 | nil=>intro e d;rfl
 | node f n s t g ih =>
  intro e d;simp only[dbc];by_cases hf:f=1
  ·subst hf;rw[if_pos rfl,zD1];cases hs:memb s e with
   | true=>simp[fvD,hs]
   | false=>simp[fvD,hs]
  ·rw[if_neg hf];show fvD (dbc g _ _)=_;rw[ih];have e1:(Cr.node f n s t g).fv=zC (fun y=>memb y (Cr.node f n s t g).names0) [] g.fv:=by
    show (if f=1 then [s] else _)=_;rw[if_neg hf]
   rw[e1,zKV _ (zIK g),List.filter_filter]
   congr 1
   funext y
   rw[Bool.eq_iff_iff];simp only[Bool.not_eq_true',Bool.and_eq_true,memb,decide_eq_false_iff_not,List.mem_append,List.mem_reverse,not_or];exact and_comm
 | kid p r ihp ihr=>intro e d;show zC no (fvD (dbc p e d)) (fvD (dbc r e d))=(zC no p.fv r.fv).filter _;rw[ihp,ihr,zGX]
 | bind x t p r ihp ihr=>intro e d;show zC no (fvD (dbc p e d)) (fvD (dbc r e d))=(zC no p.fv r.fv).filter _;rw[ihp,ihr,zGX]
 | alt f n s vs p r ihp ihr =>
  intro e d;show zC no (fvD (dbc p (vs.reverse++e) d)) (fvD (dbc r e d))=(zC no (zC (fun y=>memb y vs) [] p.fv) r.fv).filter _;rw[ihp,ihr,zGX,zKV _ (zIK p),List.filter_filter]
  congr 2
  funext y
  rw[Bool.eq_iff_iff];simp only[Bool.not_eq_true',Bool.and_eq_true,memb,decide_eq_false_iff_not,List.mem_append,List.mem_reverse,not_or];exact and_comm
theorem z9Z {a b:Cr} (h:dbc a [] []=dbc b [] []):a.fv=b.fv:=by
 have h1:=zQ7 a [] [];have h2:=zQ7 b [] [];rw[h,h2] at h1;have e:∀l:List ByteArray,l.filter (fun y => !memb y [])=l:=fun l=>by simp[memb]
 rw[e,e] at h1;exact h1.symm
theorem zbM (c:Cr):c.Pk->∀y∈c.fv,y∈W18:=by
 induction c with
 | nil=>intro _ y hy;cases hy
 | node f n s t g ih =>
  intro h y hy;by_cases hf:f=1
  ·subst hf;rw[zD1] at hy;rw[List.mem_singleton.1 hy];exact h.2.2.1
  ·exact ih h.2.2.2.2 y ((jO hf).1 hy).1
 | kid p r ihp ih=>intro h y hy;exact (mem_fv_kid.1 hy).elim (ihp h.1 y) (ih h.2 y)
 | bind x t p r ihp ih=>intro h y hy;exact (mem_fv_bind.1 hy).elim (ihp h.2.2.1 y) (ih h.2.2.2 y)
 | alt f n s vs p r ihp ih=>intro h y hy;exact (mem_fv_alt.1 hy).elim (fun h2=>ihp h.2.2.2.2.1 y h2.1) (ih h.2.2.2.2.2 y)
def rsT (c:Cr):List ByteArray:=c.kids.flatMap Cr.tv++(c.binds.flatMap tB++c.alts.flatMap tA)
theorem z6G (P:ByteArray->Bool) (g:Cr):∀out,g.isN=false->g.Ok->zC P out g.tv=zC P out (rsT g):=by
 induction g with
 | nil=>intro out _ _;rfl
 | node=>intro out h;cases h
 | kid p r _ ih =>
  intro out _ ho;show zC _ out (zC no p.tv r.tv)=zC P out ((p::r.kids).flatMap Cr.tv++(r.binds.flatMap tB++r.alts.flatMap tA));rw[yL _ no P (fun s=>by simp[no]),ih _ ho.2.1 ho.2.2.2];unfold rsT;simp only[List.flatMap_cons,List.append_assoc];rw[yB P out p.tv]
 | bind x t p r _ ih =>
  intro out _ ho;show zC _ out (zC no (zC no (fvT t) p.tv) r.tv)=zC P out (r.kids.flatMap Cr.tv++(((x,t,p)::r.binds).flatMap tB++r.alts.flatMap tA));rw[yL _ no P (fun s=>by simp[no]),yL _ no P (fun s=>by simp[no]),ih _ ho.2.1 ho.2.2.2.2];unfold rsT;rw[ho.2.2.1];simp only[List.flatMap_nil,List.nil_append,List.flatMap_cons,List.append_assoc];rw[yB P out (fvT t),yB P _ p.tv]
 | alt f n s vs p r _ ih =>
  intro out _ ho;show zC _ out (zC no p.tv r.tv)=zC P out (r.kids.flatMap Cr.tv++(r.binds.flatMap tB++((((f,n,s),vs,p):Alg)::r.alts).flatMap tA));rw[yL _ no P (fun s=>by simp[no]),ih _ ho.2.1 ho.2.2.2.2.2.2];unfold rsT;rw[ho.2.2.1,ho.2.2.2.1];simp only[List.flatMap_nil,List.nil_append,List.flatMap_cons,List.append_assoc];rw[yB P out p.tv]
def gIn (c:Cr) (g:List ByteArray):List ByteArray:=if c.f=7 then g++[c.s] else g
theorem zb8 {c:Cr} (hn:c.isN=true) (ho:c.Ok) (g out:List ByteArray):zC (fun y=>memb y g) out c.tv=zC (fun y=>memb y (gIn c g)) (zC (fun y=>memb y g) out (fvT c.t)) (rsT c):=by
 cases c with
 | node f n s t k =>
  show zC _ out (zC (fun y=>decide (f=7) && decide (y=s)) (fvT t) k.tv)=_;rw[yL _ _ (fun y=>memb y (gIn (.node f n s t k) g)) (fun y=>?_)]
  ·exact z6G _ k _ (zN ho).1 (zN ho).2
  ·unfold gIn;show memb y (if f=7 then g++[s] else g)=(memb y g || (decide (f=7) && decide (y=s)));by_cases h7:f=7
   ·rw[if_pos h7,Bool.eq_iff_iff];simp[memb,h7]
   ·rw[if_neg h7];simp[h7]
 | _=>cases hn
abbrev zF9 (c:Cr) (g out:List ByteArray):Prop:=CallsG Tryz.prog (fnv 132) [] [eC c,.sl (eSs g),.sl (eSs out)] [0,0,2] fun r o h=>r = .sl (eSs (zC (fun y=>memb y g) out c.tv))/\o=2/\h=[]
theorem zPF {α β:Type} {F:α->List β} {w:α->Nat} (hF:∀a,(F a).length<=w a) (l:List α) {k:Nat} (h:k<l.length):((l.take k).flatMap F).length+w l[k]<=(l.map w).sum:=by
 induction l generalizing k with
 | nil=>exact absurd h (Nat.not_lt_zero k)
 | cons a l ih =>
  cases k with
  | zero=>simp
  | succ k =>
   have h1:=ih (k:=k) (by simpa using h);have h2:=hF a;simp only[List.take_succ_cons,List.flatMap_cons,List.length_append,List.map_cons,List.sum_cons,List.getElem_cons_succ];omega
theorem z3U {α β:Type} {F:α->List β} {w:α->Nat} (hF:∀a,(F a).length<=w a) (l:List α):(l.flatMap F).length<=(l.map w).sum:=by
 induction l with
 | nil=>simp
 | cons a l ih=>have h2:=hF a;simp only[List.flatMap_cons,List.length_append,List.map_cons,List.sum_cons];omega
def tnB (b:Bdg):Nat:=b.2.1.sz+b.2.2.tn
def tnA (a:Alg):Nat:=a.2.2.tn
theorem z4L (c:Cr):(c.kids.map Cr.tn).sum+(c.binds.map tnB).sum+(c.alts.map tnA).sum+(if c.isN then c.t.sz else 0)<=c.tn∨¬c.Ok:=by
 by_cases ho:c.Ok
 ·left
  induction c with
  | nil=>exact Nat.le_refl _
  | node f n s t g ih =>
   have h1:=ih (zN ho).2;rw[(zN ho).1] at h1;simp only[Cr.kids,Cr.binds,Cr.alts,Cr.tn,Cr.isN,Cr.t,if_true,Bool.false_eq_true,if_false] at h1⊢;omega
  | kid p r _ ih =>
   have h1:=ih ho.2.2.2;rw[ho.2.1] at h1;simp only[Cr.kids,Cr.binds,Cr.alts,Cr.tn,Cr.isN,List.map_cons,List.sum_cons,Bool.false_eq_true,if_false,tnB,tnA] at h1⊢;omega
  | bind x t p r _ ih =>
   have h1:=ih ho.2.2.2.2;rw[ho.2.1] at h1;simp only[Cr.kids,Cr.binds,Cr.alts,Cr.tn,Cr.isN,List.map_cons,List.sum_cons,Bool.false_eq_true,if_false,tnB,tnA] at h1⊢;omega
  | alt f n s vs p r _ ih =>
   have h1:=ih ho.2.2.2.2.2.2;rw[ho.2.1] at h1;simp only[Cr.kids,Cr.binds,Cr.alts,Cr.tn,Cr.isN,List.map_cons,List.sum_cons,Bool.false_eq_true,if_false,tnB,tnA] at h1⊢;omega
 ·exact .inr ho
theorem z2G (b:Bdg):(tB b).length<=tnB b:=by
 have h1:=qU b.2.1;have h2:=zEM b.2.2;simp only[tB,tnB,fvT,List.length_append];omega
theorem z7R (a:Alg):(tA a).length<=tnA a:=zEM a.2.2
theorem zTU (N:Nat) (c:Cr) (hn:c.isN=true) (ho:c.Ok) (hs:c.sz<=N+1) (hN:N<900000) (ht:c.tn<900000) (g out:List ByteArray) (hg:g.length+c.sz<=1900000) (hout:out.length+c.tn<=1900000)
  (ih:∀(p:Cr) (g out:List ByteArray),p.isN=true->p.Ok->p.sz<=N->p.tn<900000->g.length+p.sz<=1900000->out.length+p.tn<=1900000->zF9 p g out):zF9 c g out:=by
 have hl:=zD3 c ho;have htt:=ze0 hn;have hfl:(fvT c.t).length<=c.t.sz:=qU c.t;have hpt:=(z4L c).resolve_right (fun h=>h ho);rw[hn] at hpt;simp only[if_true] at hpt;have w1:=z3U (F:=Cr.tv) (w:=Cr.tn) zEM c.kids;have w2:=z3U (F:=tB) (w:=tnB) z2G c.binds;have w3:=z3U (F:=tA) (w:=tnA) z7R c.alts;obtain⟨G,hG⟩:∃G,G=gIn c g:=⟨_,rfl⟩
 obtain⟨T0,hT0⟩:∃T0,T0=zC (fun y=>memb y g) out (fvT c.t):=⟨_,rfl⟩
 have hT0l:=zM (fun y=>memb y g) (fvT c.t) out;rw[<-hT0] at hT0l;have hout2:=zb8 hn ho g out;rw[<-hG,<-hT0] at hout2;have hGl:G.length<=g.length+1:=by rw[hG];unfold gIn;split<;>simp
 have hG7:c.f=7->eSs g++[str c.s]=eSs G:=fun h=>by rw[hG];unfold gIn;rw[if_pos h];simp[eSs]
 have hG0:¬c.f=7->eSs g=eSs G:=fun h=>by rw[hG];unfold gIn;rw[if_neg h]
 have ilen:=fun l=>zM (fun y=>memb y G) l T0;have hc0:=zAY hn;show CallsG Tryz.prog (fnv 132) [] [eC c,.sl (eSs g),.sl (eSs out)] [0,0,2] _;refine xM (first:=[]) (cap:=[]) ttok mixed Tryz.func132 rfl (by rfl) (by rfl) (Nat.le_of_ble_eq_true rfl) (Nat.le_of_ble_eq_true rfl) (by kernel_rfl) ?_;refine .inl ⟨_,zH5 c.t (by omega),?_⟩;refine .inr ⟨rfl,[],[],[0,0,2],_,rfl,List.nodup_nil,rfl,zNA (fvT c.t) g out (by omega) (by omega) (by omega),?_⟩;rintro _ _ _ ⟨rfl,rfl,rfl⟩;rw[<-hT0];refine⟨by rw[zB5];simp only[List.length_nil];omega,zRQ 1,yP _,?_⟩;refine⟨fun h=>?_,fun h=>?_⟩
 ·have h7:c.f=7:=of_decide_eq_true h;have hX:=hG7 h7;refine⟨by show ([]++eSs g).length+1<=_;rw[List.nil_append,zB5];omega,yP g,jF rfl,?_⟩;refine⟨{k:Nat // k<=c.kids.length},fun k=>{vs:=[(3,.box 0 (eC c)),(7,.v (.sl (eSs G))),(2,.v (.sl (eSs (zC (fun y=>memb y G) T0 ((c.kids.take k.1).flatMap Cr.tv))))),(8,sv (k.1:Nat))],ow:=[(2,0,2)]},
   fun k=>c.kids.length-k.1,⟨0,Nat.zero_le _⟩,⟨⟨rfl,congrArg (fun l=>SV.v (AV.sl l)) hX,rfl,rfl,trivial⟩,⟨rfl,trivial⟩,rfl⟩,?_⟩
  rintro⟨k,hk⟩;refine⟨fun h=>?_,fun h=>?_⟩
  ·have h:k<c.kids.length:=by have h:=of_decide_eq_true h;rw[zFU] at h;simp only at h;omega
   have hsz:=zBF (List.getElem_mem h);rw[hn] at hsz;simp only[if_true] at hsz;have htn:=z5I (List.getElem_mem h);have hpw:=zPF (F:=Cr.tv) (w:=Cr.tn) zEM c.kids h;have hi:=ilen ((c.kids.take k).flatMap Cr.tv);refine⟨_,by omega,zJ6 h,rfl,?_⟩;refine .inr ⟨rfl,[],[],[0,0,2],_,rfl,List.nodup_nil,rfl,ih c.kids[k] G (zC (fun y=>memb y G) T0 ((c.kids.take k).flatMap Cr.tv)) (ho.kid (List.getElem_mem h)).1 (ho.kid (List.getElem_mem h)).2 (by omega) (by omega) (by omega) (by omega),?_⟩;rintro _ _ _ ⟨rfl,rfl,rfl⟩;refine⟨⟨k+1,h⟩,by simp;omega,⟨rfl,rfl,?_,svc (wrap_succ (k:=k) (by omega)),trivial⟩,⟨rfl,trivial⟩,rfl⟩;show SV.v (AV.sl (eSs (zC _ (zC _ T0 _) _)))=SV.v (AV.sl (eSs (zC _ T0 _)));rw[<-yB,zBR Cr.tv h]
  have h:k=c.kids.length:=by have h:=of_decide_eq_false h;rw[zFU] at h;simp only at h;omega
  subst h;refine⟨{k:Nat // k<=c.binds.length},fun k=>{vs:=[(3,.box 0 (eC c)),(7,.v (.sl (eSs G))),(2,.v (.sl (eSs (zC (fun y=>memb y G) T0 (c.kids.flatMap Cr.tv++(c.binds.take k.1).flatMap tB))))),(9,sv (k.1:Nat))],ow:=[(2,0,2)]},
   fun k=>c.binds.length-k.1,⟨0,Nat.zero_le _⟩,⟨⟨rfl,rfl,?_,rfl,trivial⟩,⟨rfl,trivial⟩,rfl⟩,?_⟩
  ·show SV.v (AV.sl (eSs _))=SV.v (AV.sl (eSs _));rw[List.take_length,List.take_zero,List.flatMap_nil,List.append_nil]
  rintro⟨k,hk2⟩;refine⟨fun h=>?_,fun h=>?_⟩
  ·have h:k<c.binds.length:=by have h:=of_decide_eq_true h;rw[zNP] at h;simp only at h;omega
   have hsz:=zCF (List.getElem_mem h);rw[hn] at hsz;simp only[if_true] at hsz;have htn:=zXU (List.getElem_mem h);have hft:(fvT c.binds[k].2.1).length<=c.binds[k].2.1.sz:=qU c.binds[k].2.1;have hpw:=zPF (F:=tB) (w:=tnB) z2G c.binds h;have htb:tnB c.binds[k]=c.binds[k].2.1.sz+c.binds[k].2.2.tn:=rfl;have hi:=ilen (c.kids.flatMap Cr.tv++(c.binds.take k).flatMap tB);have hi2:=zM (fun y=>memb y G) (fvT c.binds[k].2.1) (zC (fun y=>memb y G) T0 (c.kids.flatMap Cr.tv++(c.binds.take k).flatMap tB));simp only[List.length_append] at hi hi2;refine⟨_,by omega,zNH h,rfl,?_⟩;refine .inl ⟨_,zH5 c.binds[k].2.1 (by omega),?_⟩;refine .inr ⟨rfl,[],[],[0,0,2],_,rfl,List.nodup_nil,rfl,zNA (fvT c.binds[k].2.1) G (zC (fun y=>memb y G) T0 (c.kids.flatMap Cr.tv++(c.binds.take k).flatMap tB)) (by omega) (by omega) (by omega),?_⟩;rintro _ _ _ ⟨rfl,rfl,rfl⟩;refine⟨_,by omega,zNH h,rfl,?_⟩;refine .inr ⟨rfl,[],[],[0,0,2],_,rfl,List.nodup_nil,rfl,ih c.binds[k].2.2 G (zC (fun y=>memb y G) (zC (fun y=>memb y G) T0 (c.kids.flatMap Cr.tv++(c.binds.take k).flatMap tB)) (fvT c.binds[k].2.1)) (ho.bind (List.getElem_mem h)).1 (ho.bind (List.getElem_mem h)).2 (by omega) (by omega) (by omega) (by omega),?_⟩;rintro _ _ _ ⟨rfl,rfl,rfl⟩;refine⟨⟨k+1,h⟩,by simp;omega,⟨rfl,rfl,?_,svc (wrap_succ (k:=k) (by omega)),trivial⟩,⟨rfl,trivial⟩,rfl⟩;show SV.v (AV.sl (eSs (zC _ (zC _ (zC _ T0 _) _) _)))=SV.v (AV.sl (eSs (zC _ T0 _)))
   rw[<-yB,<-yB,zBR tB h];simp only[List.append_assoc,tB]
  have h:k=c.binds.length:=by have h:=of_decide_eq_false h;rw[zNP] at h;simp only at h;omega
  subst h;refine⟨{k:Nat // k<=c.alts.length},fun k=>{vs:=[(3,.box 0 (eC c)),(7,.v (.sl (eSs G))),(2,.v (.sl (eSs (zC (fun y=>memb y G) T0 (c.kids.flatMap Cr.tv++(c.binds.flatMap tB++(c.alts.take k.1).flatMap tA)))))),(10,sv (k.1:Nat))],ow:=[(2,0,2)]},
   fun k=>c.alts.length-k.1,⟨0,Nat.zero_le _⟩,⟨⟨rfl,rfl,?_,rfl,trivial⟩,⟨rfl,trivial⟩,rfl⟩,?_⟩
  ·show SV.v (AV.sl (eSs _))=SV.v (AV.sl (eSs _));rw[List.take_length,List.take_zero,List.flatMap_nil,List.append_nil]
  rintro⟨k,hk3⟩;refine⟨fun h=>?_,fun h=>?_⟩
  ·have h:k<c.alts.length:=by have h:=of_decide_eq_true h;rw[zSO] at h;simp only at h;omega
   have hsz:=zEH (List.getElem_mem h);rw[hn] at hsz;simp only[if_true] at hsz;have htn:=z1S (List.getElem_mem h);have hpw:=zPF (F:=tA) (w:=tnA) z7R c.alts h;have hta:tnA c.alts[k]=c.alts[k].2.2.tn:=rfl;have hi:=ilen (c.kids.flatMap Cr.tv++(c.binds.flatMap tB++(c.alts.take k).flatMap tA));simp only[List.length_append] at hi;refine⟨_,by omega,zO5 h,rfl,?_⟩;refine .inr ⟨rfl,[],[],[0,0,2],_,rfl,List.nodup_nil,rfl,ih c.alts[k].2.2 G (zC (fun y=>memb y G) T0 (c.kids.flatMap Cr.tv++(c.binds.flatMap tB++(c.alts.take k).flatMap tA))) (ho.alt (List.getElem_mem h)).1 (ho.alt (List.getElem_mem h)).2.1 (by omega) (by omega) (by omega) (by omega),?_⟩;rintro _ _ _ ⟨rfl,rfl,rfl⟩;refine⟨⟨k+1,h⟩,by simp;omega,⟨rfl,rfl,?_,svc (wrap_succ (k:=k) (by omega)),trivial⟩,⟨rfl,trivial⟩,rfl⟩;show SV.v (AV.sl (eSs (zC _ (zC _ T0 _) _)))=SV.v (AV.sl (eSs (zC _ T0 _)));rw[<-yB,zBR tA h];simp only[List.append_assoc]
  have h:k=c.alts.length:=by have h:=of_decide_eq_false h;rw[zSO] at h;simp only at h;omega
  subst h;rw[List.take_length];refine⟨?_,rfl,rfl⟩;show AV.sl (eSs _)=_;rw[hout2];rfl
 ·have h7:¬c.f=7:=of_decide_eq_false h;have hX:=hG0 h7;refine⟨{k:Nat // k<=c.kids.length},fun k=>{vs:=[(3,.box 0 (eC c)),(7,.v (.sl (eSs G))),(2,.v (.sl (eSs (zC (fun y=>memb y G) T0 ((c.kids.take k.1).flatMap Cr.tv))))),(8,sv (k.1:Nat))],ow:=[(2,0,2)]},
   fun k=>c.kids.length-k.1,⟨0,Nat.zero_le _⟩,⟨⟨rfl,congrArg (fun l=>SV.v (AV.sl l)) hX,rfl,rfl,trivial⟩,⟨rfl,trivial⟩,rfl⟩,?_⟩
  rintro⟨k,hk⟩;refine⟨fun h=>?_,fun h=>?_⟩
  ·have h:k<c.kids.length:=by have h:=of_decide_eq_true h;rw[zFU] at h;simp only at h;omega
   have hsz:=zBF (List.getElem_mem h);rw[hn] at hsz;simp only[if_true] at hsz;have htn:=z5I (List.getElem_mem h);have hpw:=zPF (F:=Cr.tv) (w:=Cr.tn) zEM c.kids h;have hi:=ilen ((c.kids.take k).flatMap Cr.tv);refine⟨_,by omega,zJ6 h,rfl,?_⟩;refine .inr ⟨rfl,[],[],[0,0,2],_,rfl,List.nodup_nil,rfl,ih c.kids[k] G (zC (fun y=>memb y G) T0 ((c.kids.take k).flatMap Cr.tv)) (ho.kid (List.getElem_mem h)).1 (ho.kid (List.getElem_mem h)).2 (by omega) (by omega) (by omega) (by omega),?_⟩;rintro _ _ _ ⟨rfl,rfl,rfl⟩;refine⟨⟨k+1,h⟩,by simp;omega,⟨rfl,rfl,?_,svc (wrap_succ (k:=k) (by omega)),trivial⟩,⟨rfl,trivial⟩,rfl⟩;show SV.v (AV.sl (eSs (zC _ (zC _ T0 _) _)))=SV.v (AV.sl (eSs (zC _ T0 _)));rw[<-yB,zBR Cr.tv h]
  have h:k=c.kids.length:=by have h:=of_decide_eq_false h;rw[zFU] at h;simp only at h;omega
  subst h;refine⟨{k:Nat // k<=c.binds.length},fun k=>{vs:=[(3,.box 0 (eC c)),(7,.v (.sl (eSs G))),(2,.v (.sl (eSs (zC (fun y=>memb y G) T0 (c.kids.flatMap Cr.tv++(c.binds.take k.1).flatMap tB))))),(9,sv (k.1:Nat))],ow:=[(2,0,2)]},
   fun k=>c.binds.length-k.1,⟨0,Nat.zero_le _⟩,⟨⟨rfl,rfl,?_,rfl,trivial⟩,⟨rfl,trivial⟩,rfl⟩,?_⟩
  ·show SV.v (AV.sl (eSs _))=SV.v (AV.sl (eSs _));rw[List.take_length,List.take_zero,List.flatMap_nil,List.append_nil]
  rintro⟨k,hk2⟩;refine⟨fun h=>?_,fun h=>?_⟩
  ·have h:k<c.binds.length:=by have h:=of_decide_eq_true h;rw[zNP] at h;simp only at h;omega
   have hsz:=zCF (List.getElem_mem h);rw[hn] at hsz;simp only[if_true] at hsz;have htn:=zXU (List.getElem_mem h);have hft:(fvT c.binds[k].2.1).length<=c.binds[k].2.1.sz:=qU c.binds[k].2.1;have hpw:=zPF (F:=tB) (w:=tnB) z2G c.binds h;have htb:tnB c.binds[k]=c.binds[k].2.1.sz+c.binds[k].2.2.tn:=rfl;have hi:=ilen (c.kids.flatMap Cr.tv++(c.binds.take k).flatMap tB);have hi2:=zM (fun y=>memb y G) (fvT c.binds[k].2.1) (zC (fun y=>memb y G) T0 (c.kids.flatMap Cr.tv++(c.binds.take k).flatMap tB));simp only[List.length_append] at hi hi2;refine⟨_,by omega,zNH h,rfl,?_⟩;refine .inl ⟨_,zH5 c.binds[k].2.1 (by omega),?_⟩;refine .inr ⟨rfl,[],[],[0,0,2],_,rfl,List.nodup_nil,rfl,zNA (fvT c.binds[k].2.1) G (zC (fun y=>memb y G) T0 (c.kids.flatMap Cr.tv++(c.binds.take k).flatMap tB)) (by omega) (by omega) (by omega),?_⟩;rintro _ _ _ ⟨rfl,rfl,rfl⟩;refine⟨_,by omega,zNH h,rfl,?_⟩;refine .inr ⟨rfl,[],[],[0,0,2],_,rfl,List.nodup_nil,rfl,ih c.binds[k].2.2 G (zC (fun y=>memb y G) (zC (fun y=>memb y G) T0 (c.kids.flatMap Cr.tv++(c.binds.take k).flatMap tB)) (fvT c.binds[k].2.1)) (ho.bind (List.getElem_mem h)).1 (ho.bind (List.getElem_mem h)).2 (by omega) (by omega) (by omega) (by omega),?_⟩;rintro _ _ _ ⟨rfl,rfl,rfl⟩;refine⟨⟨k+1,h⟩,by simp;omega,⟨rfl,rfl,?_,svc (wrap_succ (k:=k) (by omega)),trivial⟩,⟨rfl,trivial⟩,rfl⟩;show SV.v (AV.sl (eSs (zC _ (zC _ (zC _ T0 _) _) _)))=SV.v (AV.sl (eSs (zC _ T0 _)))
   rw[<-yB,<-yB,zBR tB h];simp only[List.append_assoc,tB]
  have h:k=c.binds.length:=by have h:=of_decide_eq_false h;rw[zNP] at h;simp only at h;omega
  subst h;refine⟨{k:Nat // k<=c.alts.length},fun k=>{vs:=[(3,.box 0 (eC c)),(7,.v (.sl (eSs G))),(2,.v (.sl (eSs (zC (fun y=>memb y G) T0 (c.kids.flatMap Cr.tv++(c.binds.flatMap tB++(c.alts.take k.1).flatMap tA)))))),(10,sv (k.1:Nat))],ow:=[(2,0,2)]},
   fun k=>c.alts.length-k.1,⟨0,Nat.zero_le _⟩,⟨⟨rfl,rfl,?_,rfl,trivial⟩,⟨rfl,trivial⟩,rfl⟩,?_⟩
  ·show SV.v (AV.sl (eSs _))=SV.v (AV.sl (eSs _));rw[List.take_length,List.take_zero,List.flatMap_nil,List.append_nil]
  rintro⟨k,hk3⟩;refine⟨fun h=>?_,fun h=>?_⟩
  ·have h:k<c.alts.length:=by have h:=of_decide_eq_true h;rw[zSO] at h;simp only at h;omega
   have hsz:=zEH (List.getElem_mem h);rw[hn] at hsz;simp only[if_true] at hsz;have htn:=z1S (List.getElem_mem h);have hpw:=zPF (F:=tA) (w:=tnA) z7R c.alts h;have hta:tnA c.alts[k]=c.alts[k].2.2.tn:=rfl;have hi:=ilen (c.kids.flatMap Cr.tv++(c.binds.flatMap tB++(c.alts.take k).flatMap tA));simp only[List.length_append] at hi;refine⟨_,by omega,zO5 h,rfl,?_⟩;refine .inr ⟨rfl,[],[],[0,0,2],_,rfl,List.nodup_nil,rfl,ih c.alts[k].2.2 G (zC (fun y=>memb y G) T0 (c.kids.flatMap Cr.tv++(c.binds.flatMap tB++(c.alts.take k).flatMap tA))) (ho.alt (List.getElem_mem h)).1 (ho.alt (List.getElem_mem h)).2.1 (by omega) (by omega) (by omega) (by omega),?_⟩;rintro _ _ _ ⟨rfl,rfl,rfl⟩;refine⟨⟨k+1,h⟩,by simp;omega,⟨rfl,rfl,?_,svc (wrap_succ (k:=k) (by omega)),trivial⟩,⟨rfl,trivial⟩,rfl⟩;show SV.v (AV.sl (eSs (zC _ (zC _ T0 _) _)))=SV.v (AV.sl (eSs (zC _ T0 _)));rw[<-yB,zBR tA h];simp only[List.append_assoc]
  have h:k=c.alts.length:=by have h:=of_decide_eq_false h;rw[zSO] at h;simp only at h;omega
  subst h;rw[List.take_length];refine⟨?_,rfl,rfl⟩;show AV.sl (eSs _)=_;rw[hout2];rfl
theorem z1K (N:Nat) (hN:N<900000):∀(c:Cr) (g out:List ByteArray),c.isN=true->c.Ok->c.sz<=N->c.tn<900000->g.length+c.sz<=1900000->out.length+c.tn<=1900000->zF9 c g out:=by
 induction N with
 | zero=>intro c g out hn _ hs;have:=zAY hn;omega
 | succ N ih=>exact fun c g out hn ho hs ht hg hout=>zTU N c hn ho hs (by omega) ht g out hg hout (ih (by omega))
theorem zMI {c:Cr} (hn:c.isN=true) (ho:c.Ok) (hs:c.sz<900000) (ht:c.tn<900000):CallsG Tryz.prog (fnv 84) [] [eC c] [] fun r o h=>r = .sl (eSs c.tv)/\o=2/\h=[]:=by
 refine xM (first:=[]) (cap:=[]) (os:=[]) ttok mixed Tryz.func84 rfl (by rfl) (by rfl) (Nat.le_of_ble_eq_true rfl) (Nat.le_of_ble_eq_true rfl) (by kernel_rfl) ?_;refine .inr ⟨rfl,[],[],[0,0,2],_,rfl,List.nodup_nil,rfl,z1K c.sz hs c [] [] hn ho (Nat.le_refl _) ht (by simp;omega) (by simp;omega),?_⟩;rintro _ _ _ ⟨rfl,rfl,rfl⟩;refine⟨?_,rfl,rfl⟩;show AV.sl (eSs (zC (fun y=>memb y []) [] c.tv))=_;rw[zKV _ (z0J c),List.filter_eq_self.2 (fun y _=>by simp[memb])]
theorem zIM {c:Cr} (hn:c.isN=true) (ho:c.Ok) (hs:c.sz<900000) (ht:c.tn<900000):zF Tryz.prog zGW [eC c] (.sl (eSs c.tv)):=zLP (zMI hn ho hs ht)
theorem z0B (t:Tp) (h:t.sz<1000000):CallsG Tryz.prog (fnv 61) [] [eTy t] [] fun r o h=>r = .sl (eSs (fv t))/\o=2/\h=[]:=by
 refine xM (first:=[]) (cap:=[]) (os:=[]) ttok mixed Tryz.func61 rfl (by rfl) (by rfl) (Nat.le_of_ble_eq_true rfl) (Nat.le_of_ble_eq_true rfl) (by kernel_rfl) ?_;refine .inr ⟨rfl,[],[],[0,0,2],_,rfl,List.nodup_nil,rfl,zT6 t.sz h t [] [] (Nat.le_refl _) (by simp;omega) (by simp;omega),?_⟩;rintro _ _ _ ⟨rfl,rfl,rfl⟩;rw[z5D];exact⟨rfl,rfl,rfl⟩
abbrev eX (c:Cr) (t:Tp) (K B A:List AV):AV := .agg [.lit (.int .i64 c.f),.lit (.int .i64 c.n),.lit (.string c.s),.lit (.int .i64 t.form),.lit (.int .i64 t.num),.lit (.string t.nam),.sl t.eArgs,.sl K,.sl B,.sl A]
theorem zF2 {α:Type} {f:α->AV} {l:List α} {k:Nat} (h:k<l.length):(l.take (k+1)).map f=(l.take k).map f++[f l[k]]:=by
 rw[List.take_succ_eq_append_getElem h,List.map_append];rfl
abbrev bar (G:List ByteArray):ByteArray->Bool:=fun y=>memb y G
def fK (G out:List ByteArray) (l:List Cr):List ByteArray:=l.foldl (fun o p=>zC (bar G) o p.fv) out
def fA (G out:List ByteArray) (l:List Alg):List ByteArray:=l.foldl (fun o a=>zC (bar (G++a.2.1)) o a.2.2.fv) out
theorem z14 (G H:List ByteArray) (y:ByteArray):bar (G++H) y=(bar G y || bar H y):=by
 rw[Bool.eq_iff_iff];simp[bar,memb]
theorem z6V (G:List ByteArray) (g:Cr):∀out,g.isN=false->g.Ok->zC (bar G) out g.fv=fA G (fK G (fK G out g.kids) (g.binds.map (·.2.2))) g.alts:=by
 induction g with
 | nil=>intro out _ _;rfl
 | node=>intro out h;cases h
 | kid p r _ ih =>
  intro out _ ho;show zC _ out (zC no p.fv r.fv)=fA G (fK G (fK G out (p::r.kids)) (r.binds.map (·.2.2))) r.alts;rw[yL _ no (bar G) (fun s=>by simp[no]),ih _ ho.2.1 ho.2.2.2]
  rfl
 | bind x t p r _ ih =>
  intro out _ ho;show zC _ out (zC no p.fv r.fv)=fA G (fK G (fK G out r.kids) (p::r.binds.map (·.2.2))) r.alts;rw[yL _ no (bar G) (fun s=>by simp[no]),ih _ ho.2.1 ho.2.2.2.2,ho.2.2.1]
  rfl
 | alt f n s vs p r _ ih =>
  intro out _ ho;show zC _ out (zC no (zC (bar vs) [] p.fv) r.fv)=fA G (fK G (fK G out r.kids) (r.binds.map (·.2.2))) ((((f,n,s),vs,p):Alg)::r.alts);rw[yL _ no (bar G) (fun s=>by simp[no]),yL (bar G) (bar vs) (bar (G++vs)) (z14 G vs),ih _ ho.2.1 ho.2.2.2.2.2.2,ho.2.2.1,ho.2.2.2.1]
  rfl
theorem zcL {c:Cr} (hn:c.isN=true) (ho:c.Ok) (h1:c.f≠1) (g out:List ByteArray):zC (bar g) out c.fv=fA (g++c.names0) (fK (g++c.names0) (fK (g++c.names0) out c.kids) (c.binds.map (·.2.2))) c.alts:=by
 cases c with
 | node f n s t k =>
  have e1:(Cr.node f n s t k).fv=zC (bar (Cr.node f n s t k).names0) [] k.fv:=by
   show (if f=1 then [s] else _)=_;rw[if_neg (show ¬f=1 from h1)]
  rw[e1,yL (bar g) _ (bar (g++(Cr.node f n s t k).names0)) (z14 _ _)];exact z6V _ k _ (zN ho).1 (zN ho).2
 | _=>cases hn
theorem zXB {G out:List ByteArray} {l:List Cr} {k:Nat} (h:k<l.length):fK G out (l.take (k+1))=zC (bar G) (fK G out (l.take k)) l[k].fv:=by
 unfold fK;rw[List.take_succ_eq_append_getElem h,List.foldl_append];rfl
theorem za1 {G out:List ByteArray} {l:List Alg} {k:Nat} (h:k<l.length):fA G out (l.take (k+1))=zC (bar (G++l[k].2.1)) (fA G out (l.take k)) l[k].2.2.fv:=by
 unfold fA;rw[List.take_succ_eq_append_getElem h,List.foldl_append];rfl
theorem zL0 (G:List ByteArray):∀(l:List Cr) (out:List ByteArray),(fK G out l).length<=out.length+(l.map Cr.sz).sum
 | [],out=>by simp[fK]
 | p::l,out=>by
  have h1:=zL0 G l (zC (bar G) out p.fv);have h2:=zM (bar G) p.fv out;have h3:=zCN p;show (fK G (zC (bar G) out p.fv) l).length<=_;simp only[List.map_cons,List.sum_cons];omega
def szB (b:Bdg):Nat:=b.2.2.sz
def szA (a:Alg):Nat:=a.2.2.sz
def bdy (c:Cr):List Cr:=c.binds.map fun b=>b.2.2
theorem z15 (G:List ByteArray):∀(l:List Alg) (out:List ByteArray),(fA G out l).length<=out.length+(l.map szA).sum
 | [],out=>by simp[fA]
 | p::l,out=>by
  have h1:=z15 G l (zC (bar (G++p.2.1)) out p.2.2.fv);have h2:=zM (bar (G++p.2.1)) p.2.2.fv out;have h3:=zCN p.2.2;show (fA G (zC (bar (G++p.2.1)) out p.2.2.fv) l).length<=_;have h4:szA p=p.2.2.sz:=rfl;simp only[List.map_cons,List.sum_cons];omega
theorem z6T {α β:Type} {f:α->β} {l:List α} {k:Nat} (h:k<l.length):(l.take (k+1)).map f=(l.take k).map f++[f l[k]]:=by
 rw[List.take_succ_eq_append_getElem h,List.map_append];rfl
theorem zM4 {α:Type} (w:α->Nat) (l:List α) {k:Nat} (h:k<l.length):((l.take k).map w).sum+w l[k]<=(l.map w).sum:=by
 induction l generalizing k with
 | nil=>exact absurd h (Nat.not_lt_zero k)
 | cons a l ih =>
  cases k with
  | zero=>simp
  | succ k =>
   have h1:=ih (k:=k) (by simpa using h);simp only[List.take_succ_cons,List.map_cons,List.sum_cons,List.getElem_cons_succ];omega
theorem zZ1 {c:Cr} (hn:c.isN=true) (ho:c.Ok):(c.kids.map Cr.sz).sum+(c.binds.map szB).sum+(c.alts.map szA).sum+1=c.sz:=by
 have h:=z5R c ho;rw[hn] at h;simp only[if_true] at h;exact h
abbrev zFQ (c:Cr) (g out:List ByteArray):Prop:=CallsG Tryz.prog (fnv 131) [] [eC c,.sl (eSs g),.sl (eSs out)] [0,0,2] fun r o h=>r = .sl (eSs (zC (bar g) out c.fv))/\o=2/\h=[]
theorem zQZ (N:Nat) (c:Cr) (hn:c.isN=true) (ho:c.Ok) (hf:c.Few) (hs:c.sz<=N+1) (hN:N<900) (g out:List ByteArray) (hg:g.length+20000*c.sz<=19000000) (hout:out.length+c.sz<=1900000)
  (ih:∀(p:Cr) (g out:List ByteArray),p.isN=true->p.Ok->p.Few->p.sz<=N->g.length+20000*p.sz<=19000000->out.length+p.sz<=1900000->zFQ p g out):zFQ c g out:=by
 have hl:=zD3 c ho;have hsum:=zZ1 hn ho;have hc0:=zAY hn;show CallsG Tryz.prog (fnv 131) [] [eC c,.sl (eSs g),.sl (eSs out)] [0,0,2] _;refine zKM (first:=[]) (cap:=[]) ttok mixed Tryz.func131 rfl (by rfl) (by rfl) (Nat.le_of_ble_eq_true rfl) (Nat.le_of_ble_eq_true rfl) (by kernel_rfl) ?_;by_cases h1:c.f=1
 ·have hfv:c.fv=[c.s]:=by
   cases c with
   | node f n s t k =>
    have h1:f=1:=h1;subst h1;exact zD1 _ _ _ _
   | _=>cases hn
  rw[hfv];refine Wsem.of ttok mixed ?_;refine⟨fun _=>?_,fun h=>absurd h (by simp[h1])⟩;refine .inl ⟨_,wK (l:=g) (s:=c.s) (by omega),?_⟩;refine⟨fun h2=>?_,fun h2=>?_⟩
  ·have h2:memb c.s g=false:=by simpa using h2
   refine .inl ⟨_,wK (l:=out) (s:=c.s) (by omega),?_⟩;refine⟨fun h3=>?_,fun h3=>?_⟩
   ·have h3:memb c.s out=false:=by simpa using h3
    refine⟨by rw[zB5];simp only[List.length_cons,List.length_nil];omega,yP _,jF rfl,?_⟩;refine⟨?_,rfl,rfl⟩;show AV.sl (eSs out++[str c.s])=AV.sl (eSs (ins (bar g) out c.s));rw[zKT h3 h2];simp[eSs]
   ·have h3:memb c.s out=true:=by simpa using h3
    refine⟨?_,rfl,rfl⟩;show AV.sl (eSs out)=AV.sl (eSs (ins (bar g) out c.s));rw[zIH (.inl h3)]
  ·have h2:memb c.s g=true:=by simpa using h2
   refine⟨?_,rfl,rfl⟩;show AV.sl (eSs out)=AV.sl (eSs (ins (bar g) out c.s));rw[zIH (.inr h2)]
 have hout2:=zcL hn ho h1 g out;obtain⟨G,hG⟩:∃G,G=g++c.names0:=⟨_,rfl⟩
 rw[<-hG] at hout2;have hnm:c.names0=c.own++c.binds.map (·.1):=rfl;have hol:c.own.length<=1:=by
  cases c with
  | node f n s t k=>show (if f=5 then [s] else []).length<=1;split<;>simp
  | _=>cases hn
 have hGl:G.length<=g.length+1+c.binds.length:=by rw[hG,hnm];simp only[List.length_append,List.length_map];omega
 have hG':g++c.own++c.binds.map (·.1)=G:=by rw[hG,hnm,List.append_assoc]
 have hG:=hG'.symm;have tail:Wsem Tryz.prog (zCS (zCS (zCS (zCS (zCS (bodyC Tryz.f131)))))) (mkC {vs:=[(2,.v (.sl (eSs out))),(3,.box 0 (eC c)),(7,.v (.sl (eSs (g++c.own))))],ow:=[(7,0,2),(2,0,2)]})
   (fun c2=>wZ tt Tryz.f131.results.toList (fun r o h=>r = .sl (eSs (zC (bar g) out c.fv))/\o=2/\h=[]) (den c2)) (fun _ _=>False) (fun c2=>wZ tt Tryz.f131.results.toList (fun r o h=>r = .sl (eSs (zC (bar g) out c.fv))/\o=2/\h=[]) (den c2)):=by
  refine Wsem.seq ttok mixed ?_;refine⟨{k:Nat // k<=c.binds.length},fun k=>{vs:=[(2,.v (.sl (eSs out))),(3,.box 0 (eC c)),(7,.v (.sl (eSs (g++c.own++(c.binds.take k.1).map (·.1))))),(8,sv (k.1:Nat))],ow:=[(7,0,2),(2,0,2)]},
   fun k=>c.binds.length-k.1,⟨0,Nat.zero_le _⟩,⟨⟨rfl,rfl,congrArg (fun l=>SV.v (AV.sl l)) (by simp),rfl,trivial⟩,⟨rfl,rfl,trivial⟩,rfl⟩,?_⟩
  rintro⟨k,hk⟩;refine⟨fun h=>?_,fun h=>?_⟩
  ·have h:k<c.binds.length:=by have h:=of_decide_eq_true h;rw[zNP] at h;simp only at h;omega
   refine⟨_,by omega,zNH h,rfl,?_⟩;refine⟨by rw[zB5];simp only[List.length_append,List.length_map,List.length_take,List.length_cons,List.length_nil];omega,yP _,jF rfl,?_⟩;refine⟨⟨k+1,h⟩,by simp;omega,⟨rfl,rfl,?_,svc (wrap_succ (k:=k) (by omega)),trivial⟩,⟨rfl,rfl,trivial⟩,rfl⟩;show SV.v (AV.sl (eSs (g++c.own++(c.binds.take k).map (·.1))++[str c.binds[k].1]))=SV.v (AV.sl (eSs (g++c.own++(c.binds.take (k+1)).map (·.1))));rw[z6T (f:=fun b:Bdg=>b.1) h,<-List.append_assoc];simp[eSs]
  have h:k=c.binds.length:=by have h:=of_decide_eq_false h;rw[zNP] at h;simp only at h;omega
  subst h;refine Wsem.cut {vs:=[(2,.v (.sl (eSs out))),(3,.box 0 (eC c)),(7,.v (.sl (eSs G)))],ow:=[(2,0,2)]} ⟨⟨rfl,rfl,by rw[List.take_length,hG];rfl,trivial⟩,⟨rfl,trivial⟩,rfl⟩ ?_;refine Wsem.seq ttok mixed ?_;refine⟨{k:Nat // k<=c.kids.length},fun k=>{vs:=[(2,.v (.sl (eSs (fK G out (c.kids.take k.1))))),(3,.box 0 (eC c)),(7,.v (.sl (eSs G))),(9,sv (k.1:Nat))],ow:=[(2,0,2)]},
   fun k=>c.kids.length-k.1,⟨0,Nat.zero_le _⟩,⟨⟨rfl,rfl,rfl,rfl,trivial⟩,⟨rfl,trivial⟩,rfl⟩,?_⟩
  rintro⟨k,hk1⟩;refine⟨fun h=>?_,fun h=>?_⟩
  ·have h:k<c.kids.length:=by have h:=of_decide_eq_true h;rw[zFU] at h;simp only at h;omega
   have hsz:=zBF (List.getElem_mem h);rw[hn] at hsz;simp only[if_true] at hsz;have hw:=zM4 Cr.sz c.kids h;have hi:=zL0 G (c.kids.take k) out;refine⟨_,by omega,zJ6 h,rfl,?_⟩;refine .inr (.inr (.inr (.inr (.inl (.inr ⟨rfl,[],[],[0,0,2],_,rfl,List.nodup_nil,rfl,ih c.kids[k] G (fK G out (c.kids.take k)) (ho.kid (List.getElem_mem h)).1 (ho.kid (List.getElem_mem h)).2 (hf.kid (List.getElem_mem h)) (by omega) (by omega) (by omega),?_⟩)))));rintro _ _ _ ⟨rfl,rfl,rfl⟩;refine⟨⟨k+1,h⟩,by simp;omega,⟨?_,rfl,rfl,svc (wrap_succ (k:=k) (by omega)),trivial⟩,⟨rfl,trivial⟩,rfl⟩;show SV.v (AV.sl (eSs _))=SV.v (AV.sl (eSs _));rw[zXB h]
  have h:k=c.kids.length:=by have h:=of_decide_eq_false h;rw[zFU] at h;simp only at h;omega
  subst h;have hi1:=zL0 G c.kids out;obtain⟨out1,ho1⟩:∃o,o=fK G out c.kids:=⟨_,rfl⟩
  rw[<-ho1] at hi1;refine Wsem.cut {vs:=[(2,.v (.sl (eSs out1))),(3,.box 0 (eC c)),(7,.v (.sl (eSs G)))],ow:=[(2,0,2)]} ⟨⟨by rw[List.take_length,ho1];rfl,rfl,rfl,trivial⟩,⟨rfl,trivial⟩,rfl⟩ ?_;refine Wsem.seq ttok mixed ?_;refine⟨{k:Nat // k<=c.binds.length},fun k=>{vs:=[(2,.v (.sl (eSs (fK G out1 ((bdy c).take k.1))))),(3,.box 0 (eC c)),(7,.v (.sl (eSs G))),(10,sv (k.1:Nat))],ow:=[(2,0,2)]},
   fun k=>c.binds.length-k.1,⟨0,Nat.zero_le _⟩,⟨⟨rfl,rfl,rfl,rfl,trivial⟩,⟨rfl,trivial⟩,rfl⟩,?_⟩
  rintro⟨k,hk2⟩;refine⟨fun h=>?_,fun h=>?_⟩
  ·have h:k<c.binds.length:=by have h:=of_decide_eq_true h;rw[zNP] at h;simp only at h;omega
   have h':k<(bdy c).length:=by simpa[bdy] using h
   have e':(bdy c)[k]=c.binds[k].2.2:=List.getElem_map _;have hsz:=zCF (List.getElem_mem h);rw[hn] at hsz;simp only[if_true] at hsz;have hw:=zM4 Cr.sz (bdy c) h';rw[e'] at hw;have hw2:((bdy c).map Cr.sz).sum=(c.binds.map szB).sum:=by unfold bdy;rw[List.map_map];rfl
   have hi:=zL0 G ((bdy c).take k) out1;refine⟨_,by omega,zNH h,rfl,?_⟩;refine .inr (.inr (.inr (.inr (.inl (.inr ⟨rfl,[],[],[0,0,2],_,rfl,List.nodup_nil,rfl,ih c.binds[k].2.2 G (fK G out1 ((bdy c).take k)) (ho.bind (List.getElem_mem h)).1 (ho.bind (List.getElem_mem h)).2 (hf.bind (List.getElem_mem h)) (by omega) (by omega) (by omega),?_⟩)))));rintro _ _ _ ⟨rfl,rfl,rfl⟩;refine⟨⟨k+1,h⟩,by simp;omega,⟨?_,rfl,rfl,svc (wrap_succ (k:=k) (by omega)),trivial⟩,⟨rfl,trivial⟩,rfl⟩;show SV.v (AV.sl (eSs _))=SV.v (AV.sl (eSs _));rw[zXB h',e']
  have h:k=c.binds.length:=by have h:=of_decide_eq_false h;rw[zNP] at h;simp only at h;omega
  subst h;have hi2:=zL0 G (bdy c) out1;have hw2:((bdy c).map Cr.sz).sum=(c.binds.map szB).sum:=by unfold bdy;rw[List.map_map];rfl
  obtain⟨out2,ho2⟩:∃o,o=fK G out1 (bdy c):=⟨_,rfl⟩
  rw[<-ho2] at hi2;have e2:(bdy c).take c.binds.length=bdy c:=List.take_of_length_le (by simp[bdy]);refine Wsem.cut {vs:=[(2,.v (.sl (eSs out2))),(3,.box 0 (eC c)),(7,.v (.sl (eSs G)))],ow:=[(2,0,2)]} ⟨⟨by rw[e2,ho2];rfl,rfl,rfl,trivial⟩,⟨rfl,trivial⟩,rfl⟩ ?_;refine Wsem.seqS (Wsem.seq ttok mixed ?_);refine Wsem.block (Wsem.loop (α:={k:Nat // k<=c.alts.length}) (fun k=>{vs:=[(2,.v (.sl (eSs (fA G out2 (c.alts.take k.1))))),(3,.box 0 (eC c)),(7,.v (.sl (eSs G))),(11,sv (k.1:Nat))],ow:=[(2,0,2)]})
   (fun k=>c.alts.length-k.1) ⟨0,Nat.zero_le _⟩ ⟨⟨rfl,rfl,rfl,rfl,trivial⟩,⟨rfl,trivial⟩,rfl⟩ ?_)
  rintro⟨k,hk3⟩;refine Wsem.seq ttok mixed ?_;refine⟨fun h=>?_,fun h=>?_⟩
  ·have h:k<c.alts.length:=by have h:=of_decide_eq_true h;rw[zSO] at h;simp only at h;omega
   have hsz:=zEH (List.getElem_mem h);rw[hn] at hsz;simp only[if_true] at hsz;have hvl:=(hf.alt (List.getElem_mem h)).2;have hw:=zM4 szA c.alts h;have hwa:szA c.alts[k]=c.alts[k].2.2.sz:=rfl;have hi:=z15 G (c.alts.take k) out2;have hal:=zO5 h;refine Wsem.seqS (Wsem.block ?_);refine Wsem.seq ttok mixed ?_;refine Wsem.seq ttok mixed ?_;refine⟨by show ([]:List AV).length+(eSs G).length<=_;rw[zB5];simp only[List.length_nil];omega,zRQ 1,yP _,?_⟩;refine Wsem.regionTA zRO ttok mixed [0,1,2,3,4,5,6,7,8,9,10,11,12,13,14,15,16] [false,false,false,false,false,false,false,false,false,false,false,false,false,false,false,true] (by kernel_rfl) ?_;refine⟨_,by omega,zO5 h,rfl,?_⟩;refine⟨_,by omega,zO5 h,rfl,?_⟩;refine⟨by show ([]++eSs G).length+(eSs c.alts[k].2.1).length<=_;rw[List.nil_append,zB5,zB5];omega,yP G,yP _,?_⟩;have hcall:=ih c.alts[k].2.2 (G++c.alts[k].2.1) (fA G out2 (c.alts.take k)) (ho.alt (List.getElem_mem h)).1 (ho.alt (List.getElem_mem h)).2.1 (hf.alt (List.getElem_mem h)).1 (by omega) (by rw[List.length_append];omega) (by omega);rw[zFQ,show eSs (G++c.alts[k].2.1)=eSs G++eSs c.alts[k].2.1 by simp[eSs]] at hcall;refine⟨[],[],[0,0,2],_,rfl,List.nodup_nil,rfl,hcall,⟨_,_,_,rfl,rfl,rfl⟩,?_⟩;rintro _ _ _ ⟨rfl,rfl,rfl⟩;refine⟨by kernel_rfl,?_⟩;refine Wsem.of ttok mixed ?_;refine⟨⟨k+1,h⟩,by simp;omega,⟨?_,rfl,rfl,svc (wrap_succ (k:=k) (by omega)),trivial⟩,⟨rfl,trivial⟩,rfl⟩;show SV.v (AV.sl (eSs _))=SV.v (AV.sl (eSs _));rw[za1 h]
  have h:k=c.alts.length:=by have h:=of_decide_eq_false h;rw[zSO] at h;simp only at h;omega
  subst h;refine Wsem.of ttok mixed ?_;rw[List.take_length];refine⟨?_,rfl,rfl⟩;show AV.sl (eSs _)=_;rw[hout2,<-ho1];show AV.sl (eSs (fA G out2 c.alts))=AV.sl (eSs (fA G (fK G out1 (bdy c)) c.alts));rw[<-ho2]
 refine Wsem.seq ttok mixed ?_;refine Wsem.seqS (Wsem.seq ttok mixed ?_);refine Wsem.cond rfl (fun h=>absurd (of_decide_eq_true h) h1) (fun _=>?_);refine Wsem.of ttok mixed ?_;refine Wsem.seq ttok mixed ?_;refine Wsem.seq ttok mixed ?_;refine⟨by rw[zB5];simp only[List.length_nil];omega,zRQ 1,yP _,?_⟩;refine Wsem.seqS (Wsem.seq ttok mixed ?_);refine Wsem.cond rfl (fun h=>?_) (fun h=>?_)
 ·have h5:c.f=5:=of_decide_eq_true h;have e:c.own=[c.s]:=by
   cases c with
   | node f n s t k=>show (if f=5 then [s] else [])=[s];rw[if_pos (show f=5 from h5)]
   | _=>cases hn
  refine Wsem.of ttok mixed ?_;refine⟨by show ([]++eSs g).length+1<=_;rw[List.nil_append,zB5];omega,yP g,jF rfl,?_⟩;refine Wsem.cut _ ?_ tail;refine⟨⟨rfl,rfl,?_,trivial⟩,⟨rfl,rfl,trivial⟩,rfl⟩;show SV.v (AV.sl (eSs g++[str c.s]))=SV.v (AV.sl (eSs (g++c.own)));rw[e];simp[eSs]
 ·have h5:¬c.f=5:=of_decide_eq_false h;have e:c.own=[]:=by
   cases c with
   | node f n s t k=>show (if f=5 then [s] else [])=[];rw[if_neg (show ¬f=5 from h5)]
   | _=>cases hn
  refine Wsem.of ttok mixed ?_;refine Wsem.cut _ ?_ tail;refine⟨⟨rfl,rfl,?_,trivial⟩,⟨rfl,rfl,trivial⟩,rfl⟩;show SV.v (AV.sl (eSs g))=SV.v (AV.sl (eSs (g++c.own)));rw[e];simp
theorem zUQ (N:Nat) (hN:N<900):∀(c:Cr) (g out:List ByteArray),c.isN=true->c.Ok->c.Few->c.sz<=N->g.length+20000*c.sz<=19000000->out.length+c.sz<=1900000->zFQ c g out:=by
 induction N with
 | zero=>intro c g out hn _ _ hs;have:=zAY hn;omega
 | succ N ih=>exact fun c g out hn ho hf hs hg hout=>zQZ N c hn ho hf hs (by omega) g out hg hout (ih (by omega))
theorem z8B {l l':List ByteArray} (h:∀s,s∈l↔s∈l'):ff l=ff l':=by
 rcases Nat.lt_trichotomy (ff l) (ff l') with h1|h1|h1
 ·exact absurd ((h _).2 (zGV l' _ h1)) (zBA l)
 ·exact h1
 ·exact absurd ((h _).1 (zGV l _ h1)) (zBA l')
theorem zGP (far:List ByteArray):∀(ns tk tk':List ByteArray),(∀s,s∈tk↔s∈tk')->rens far ns tk=rens far ns tk'/\outs far ns tk=outs far ns tk'
 | [],_,_,_=>⟨rfl,rfl⟩
 | n::ns,tk,tk',h=>by
  have e:=z8B h;simp only[rens,outs];rw[e];have h1:=zGP far ns (tk++[lett (ff tk')]) (tk'++[lett (ff tk')]) (fun s=>by simp[h s]);have h2:=zGP far ns tk tk' h;rw[h1.1,h1.2,h2.1,h2.2];exact⟨rfl,rfl⟩
noncomputable def gvn (N:Nat) (ns:List ByteArray) (ps:List Cr) (s:ByteArray) (b:Cr):List ByteArray×List Cr :=
 if s∈ps.flatMap Cr.fv/\s∉ns then (outs b.fv ns (ps.flatMap Cr.fv++b.fv++ns),ps.map fun p=>sbF N (zFR N (rens b.fv ns (ps.flatMap Cr.fv++b.fv++ns)) p) s b) else (ns,ps)
theorem zUE {N:Nat} {ns:List ByteArray} {ps:List Cr} {s:ByteArray} {b:Cr} (h:plan (ps.flatMap Cr.fv) ns s b.fv=none):gvn N ns ps s b=(ns,ps):=by
 unfold gvn;rw[if_neg fun⟨h1,h2⟩=>h2 (zI9 h h1)]
theorem zSM {N:Nat} {ns:List ByteArray} {ps:List Cr} {s:ByteArray} {b:Cr} {rs:List (ByteArray×ByteArray)} (hn:ns.Nodup) (h:plan (ps.flatMap Cr.fv) ns s b.fv=some rs) :
  gvn N ns ps s b=(ns.map (nw rs),ps.map fun p=>sbF N (zFR N rs p) s b):=by
 obtain⟨h1,h2,h3⟩:=zC1 h;unfold gvn;have e:=zGP b.fv ns (ps.flatMap Cr.fv++b.fv++ns) (ps.flatMap Cr.fv++ns++b.fv) (fun s=>by simp only[List.mem_append];constructor<;>(intro h;rcases h with (h|h)|h<;>simp[h]));rw[if_pos ⟨h1,h2⟩,e.1,e.2,<-h3,<-zIY b.fv ns _ hn,<-h3]
theorem zY3 {φ:Cr->Cr} {ν:ByteArray->ByteArray} {α:List ByteArray->Cr->List ByteArray×Cr} {g:Cr} (h:g.isN=false) (ho:g.Ok) (hk:∀p∈g.kids,φ p=p) (hb:∀b∈g.binds,ν b.1=b.1/\φ b.2.2=b.2.2) (ha:∀a∈g.alts,α a.2.1 a.2.2=(a.2.1,a.2.2)):yO φ id ν α g=g:=by
 induction g with
 | nil=>rfl
 | node=>cases h
 | kid p r _ ih =>
  show Cr.kid (φ p) (yO φ id ν α r)=_;rw[hk p (List.mem_cons_self ..),ih ho.2.1 ho.2.2.2 (fun q hq=>hk q (List.mem_cons_of_mem _ hq)) hb ha]
 | bind x t p r _ ih =>
  show Cr.bind (ν x) t (φ p) (yO φ id ν α r)=_;have h1:=hb (x,t,p) (List.mem_cons_self ..);rw[show ν x=x from h1.1,show φ p=p from h1.2,ih ho.2.1 ho.2.2.2.2 hk (fun q hq=>hb q (List.mem_cons_of_mem _ hq)) ha]
 | alt f n s vs p r _ ih =>
  show Cr.alt f n s (α vs p).1 (α vs p).2 (yO φ id ν α r)=_;have h1:=ha ((f,n,s),vs,p) (List.mem_cons_self ..);rw[show α vs p=(vs,p) from h1,ih ho.2.1 ho.2.2.2.2.2.2 hk hb (fun q hq=>ha q (List.mem_cons_of_mem _ hq))]
theorem z90 (k:Nat):∀(c:Cr) (x:ByteArray) (b:Cr),c.isN=true->c.Ok->x∉c.fv->sbF k c x b=c:=by
 intro c x b hn ho hx;cases k with
 | zero=>cases c<;>rfl
 | succ k =>
  cases c with
  | node f n s t g =>
   obtain⟨g1,g2⟩:=zN ho;rw[sbF];split
   ·rename_i h1;subst h1;rw[zD1] at hx;rw[if_neg fun h=>hx (by simp[h])]
   ·rename_i h1;split
    ·rfl
    ·rename_i h7;have hfv:∀y,y∈g.fv->y∉(Cr.node f n s t g).names0->y∈(Cr.node f n s t g).fv:=fun y hy hy2=>by
      have e1:(Cr.node f n s t g).fv=zC (fun y=>memb y (Cr.node f n s t g).names0) [] g.fv:=by
       show (if f=1 then [s] else _)=_;rw[if_neg h1]
      rw[e1,mem_insAll];exact .inr ⟨hy,by cases hm:memb y (Cr.node f n s t g).names0 with|true=>exact absurd (memb_iff.1 hm) hy2|false=>rfl⟩
     have hp:plan (g.parts0.flatMap Cr.fv) (Cr.node f n s t g).names0 x b.fv=none:=by
      unfold plan;rw[if_neg];rintro⟨h3,h4⟩;obtain⟨p,hp,hxp⟩:=List.mem_flatMap.1 h3;refine hx (hfv x ?_ h4);rcases List.mem_append.1 hp with hp|hp
      ·exact fvk g1 g2 p hp x hxp
      ·obtain⟨bb,hb,rfl⟩:=List.mem_map.1 hp;exact fvb g1 g2 bb hb x hxp
     rw[hp];show Cr.node f n s t (yO id id id _ g)=_;refine congrArg (Cr.node f n s t) (zY3 g1 g2 (fun p _=>rfl) (fun b _=>⟨rfl,rfl⟩) fun a ha=>?_);have hpa:plan a.2.2.fv a.2.1 x b.fv=none:=by
      unfold plan;rw[if_neg];rintro⟨h3,h4⟩;have h5:=fva g1 g2 a ha x h3 h4;refine hx (hfv x h5 ?_);rw[zDH ho (fun e=>by rw[e] at ha;cases ha)];simp
     unfold zJQ;rw[hpa]
  | _=>cases hn
theorem z99 (s:ByteArray):zF Tryz.prog 130 [str s] (eC (vr s)):=by
 refine zG ttok mixed Tryz.func130 rfl (by rfl) (Nat.le_of_ble_eq_true rfl) (by kernel_rfl) ?_;exact rfl
theorem z6D (s:ByteArray) (l m:List ByteArray):memb s (l++m)=(memb s l || memb s m):=by
 rw[Bool.eq_iff_iff];simp[memb]
theorem zNK {l:List Cr} {k:Nat} (h:k<l.length):(l.take (k+1)).flatMap Cr.fv=(l.take k).flatMap Cr.fv++l[k].fv:=by
 rw[List.take_succ_eq_append_getElem h,List.flatMap_append];simp
theorem zUD (l:List Cr) (k:Nat):((l.take k).flatMap Cr.fv).length<=(l.flatMap Cr.fv).length:=by
 conv=>rhs;rw[<-List.take_append_drop k l]
 rw[List.flatMap_append,List.length_append];omega
noncomputable abbrev aP (N:Nat) (x:ByteArray) (b:Cr):List ByteArray->Cr->List ByteArray×Cr:=zJQ (fun rs p=>sbF N (rs.foldl (fun p q=>sbF N p q.1 (vr q.2)) p) x b) x b.fv
theorem z8Y {N:Nat} {vs:List ByteArray} {p:Cr} {x:ByteArray} {b:Cr} (hv:vs.Nodup):gvn N vs [p] x b=((aP N x b vs p).1,[(aP N x b vs p).2]):=by
 have e:[p].flatMap Cr.fv=p.fv:=by simp
 unfold aP zJQ;cases hp:plan p.fv vs x b.fv with
 | none=>rw[zUE (by rw[e];exact hp)]
 | some rs=>rw[zSM hv (by rw[e];exact hp)];rfl
theorem zWU (N:Nat) {f n:Int} {s:ByteArray} {t:Tp} {g:Cr} (ho:(Cr.node f n s t g).Ok) (h1:¬f=1) (h7:¬f=7) (x:ByteArray) (b:Cr):∃(φ:Cr->Cr) (ν:ByteArray->ByteArray),
  gvn N (Cr.node f n s t g).names0 g.parts0 x b=((Cr.node f n s t g).names0.map ν,g.parts0.map φ)/\((Cr.node f n s t g).names0=[]->φ=(fun p=>sbF N p x b)∨(φ=id/\x∉g.parts0.flatMap Cr.fv)) /\
  sbF (N+1) (.node f n s t g) x b = .node f n (if f=5 then ν s else s) t (yO φ id ν (aP N x b) g):=by
 rw[sbF,if_neg h1,if_neg h7];cases hp:plan (g.parts0.flatMap Cr.fv) (Cr.node f n s t g).names0 x b.fv with
 | none =>
  refine⟨id,id,by rw[zUE hp];simp,fun h => .inr ⟨rfl,fun hx=>?_⟩,by simp⟩;have:=zI9 hp hx;rw[h] at this;cases this
 | some rs =>
  refine⟨fun p=>sbF N (zFR N rs p) x b,nw rs,zSM (zDI ho) hp,fun h => .inl ?_,rfl⟩;obtain⟨_,_,h3⟩:=zC1 hp;rw[h,rens] at h3;subst h3
  rfl
theorem zXY {f n:Int} {s:ByteArray} {t:Tp} {g:Cr} (ho:(Cr.node f n s t g).Ok) (h:Cr.nk f=1):∃q,g.kids=[q]:=by
 have h1:g.kids.length=Cr.nk f:=ho.2.2.2.1;rw[h] at h1
 match hk:g.kids,h1 with
 | [q],_=>exact⟨q,rfl⟩
theorem z2A {f n:Int} {s':ByteArray} {t:Tp} {g:Cr} (φ:Cr->Cr) (ν:ByteArray->ByteArray) (α:List ByteArray->Cr->List ByteArray×Cr) (hg:g.isN=false) (hgo:g.Ok) :
  eC (.node f n s' t (yO φ id ν α g)) = .agg [.lit (.int .i64 f),.lit (.int .i64 n),.lit (.string s'),.lit (.int .i64 t.form),.lit (.int .i64 t.num),.lit (.string t.nam),.sl t.eArgs,.sl (g.kids.map fun p=>eC (φ p)),.sl (g.binds.map fun b=>eBd (ν b.1,b.2.1,φ b.2.2)),.sl (g.alts.map fun a=>eAl (a.1,α a.2.1 a.2.2))]:=by
 obtain⟨G,hG⟩:∃G,G=yO φ id ν α g:=⟨_,rfl⟩
 have k1:=zCV (φ:=φ) (τ:=id) (ν:=ν) (α:=α) hg hgo;have k2:=qA (φ:=φ) (τ:=id) (ν:=ν) (α:=α) hg hgo;have k3:=zIR (φ:=φ) (τ:=id) (ν:=ν) (α:=α) hg hgo;rw[<-hG] at k1 k2 k3⊢;show AV.agg [_,_,_,_,_,_,_,.sl (G.e3 0),.sl (G.e3 1),.sl (G.e3 2)]=_;rw[zNB,zI4,zKQ,k1,k2,k3,eCs,yK,yY,List.map_map,List.map_map,List.map_map]
 rfl
end Go.Proofs.YtdmbahepaglcbaaGreatDoor
