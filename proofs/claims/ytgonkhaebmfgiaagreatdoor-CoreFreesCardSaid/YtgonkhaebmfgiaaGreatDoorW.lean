/- The document's Free. No condition but on lengths. -/
import Derived.Test.YtgonkhaebmfgiaaGreatDoorU
import Derived.Test.YtgonkhaebmfgiaaGreatDoorFpM
set_option linter.unusedSimpArgs false
set_option linter.unusedVariables false
namespace Go.Proofs.YtgonkhaebmfgiaaGreatDoor
open Go Fp
set_option maxRecDepth 10000
set_option maxHeartbeats 16000000
set_option linter.unusedVariables false
abbrev bar (G:List ByteArray):ByteArray->Bool:=fun y=>memb y G
def fK (G out:List ByteArray) (l:List Cr):List ByteArray:=l.foldl (fun o p=>zA (bar G) o p.fv) out
def fA (G out:List ByteArray) (l:List Alg):List ByteArray:=l.foldl (fun o a=>zA (bar (G++a.2.1)) o a.2.2.fv) out
theorem z1K (G H:List ByteArray) (y:ByteArray):bar (G++H) y=(bar G y || bar H y):=by
 rw[Bool.eq_iff_iff];simp[bar,memb]
theorem z4C (G:List ByteArray) (g:Cr):∀out,g.isN=false->g.Ok->zA (bar G) out g.fv=fA G (fK G (fK G out g.kids) (g.binds.map (·.2.2))) g.alts:=by
 induction g with
 | nil=>intro out _ _;rfl
 | node=>intro out h;cases h
 | kid p r _ ih =>
  intro out _ ho;show zA _ out (zA no p.fv r.fv)=fA G (fK G (fK G out (p::r.kids)) (r.binds.map (·.2.2))) r.alts;rw[zN _ no (bar G) (fun s=>by simp[no]),ih _ ho.2.1 ho.2.2.2]
  rfl
 | bind x t p r _ ih =>
  intro out _ ho;show zA _ out (zA no p.fv r.fv)=fA G (fK G (fK G out r.kids) (p::r.binds.map (·.2.2))) r.alts;rw[zN _ no (bar G) (fun s=>by simp[no]),ih _ ho.2.1 ho.2.2.2.2,ho.2.2.1]
  rfl
 | alt f n s vs p r _ ih =>
  intro out _ ho;show zA _ out (zA no (zA (bar vs) [] p.fv) r.fv)=fA G (fK G (fK G out r.kids) (r.binds.map (·.2.2))) ((((f,n,s),vs,p):Alg)::r.alts);rw[zN _ no (bar G) (fun s=>by simp[no]),zN (bar G) (bar vs) (bar (G++vs)) (z1K G vs),ih _ ho.2.1 ho.2.2.2.2.2.2,ho.2.2.1,ho.2.2.2.1]
  rfl
theorem zbQ {c:Cr} (hn:c.isN=true) (ho:c.Ok) (h1:c.f≠1) (g out:List ByteArray):zA (bar g) out c.fv=fA (g++c.names0) (fK (g++c.names0) (fK (g++c.names0) out c.kids) (c.binds.map (·.2.2))) c.alts:=by
 cases c with
 | node f n s t k =>
  have e1:(Cr.node f n s t k).fv=zA (bar (Cr.node f n s t k).names0) [] k.fv:=by
   show (if f=1 then [s] else _)=_;rw[if_neg (show ¬f=1 from h1)]
  rw[e1,zN (bar g) _ (bar (g++(Cr.node f n s t k).names0)) (z1K _ _)];exact z4C _ k _ (zO ho).1 (zO ho).2
 | _=>cases hn
theorem zXN {G out:List ByteArray} {l:List Cr} {k:Nat} (h:k<l.length):fK G out (l.take (k+1))=zA (bar G) (fK G out (l.take k)) l[k].fv:=by
 unfold fK;rw[List.take_succ_eq_append_getElem h,List.foldl_append];rfl
theorem z7A {G out:List ByteArray} {l:List Alg} {k:Nat} (h:k<l.length):fA G out (l.take (k+1))=zA (bar (G++l[k].2.1)) (fA G out (l.take k)) l[k].2.2.fv:=by
 unfold fA;rw[List.take_succ_eq_append_getElem h,List.foldl_append];rfl
theorem zNC (G:List ByteArray):∀(l:List Cr) (out:List ByteArray),(fK G out l).length<=out.length+(l.map Cr.sz).sum
 | [],out=>by simp[fK]
 | p::l,out=>by
  have h1:=zNC G l (zA (bar G) out p.fv);have h2:=zJ (bar G) p.fv out;have h3:=qP p;show (fK G (zA (bar G) out p.fv) l).length<=_;simp only[List.map_cons,List.sum_cons];omega
def szB (b:Bdg):Nat:=b.2.2.sz
def szA (a:Alg):Nat:=a.2.2.sz
def bdy (c:Cr):List Cr:=c.binds.map fun b=>b.2.2
theorem z1O (G:List ByteArray):∀(l:List Alg) (out:List ByteArray),(fA G out l).length<=out.length+(l.map szA).sum
 | [],out=>by simp[fA]
 | p::l,out=>by
  have h1:=z1O G l (zA (bar (G++p.2.1)) out p.2.2.fv);have h2:=zJ (bar (G++p.2.1)) p.2.2.fv out;have h3:=qP p.2.2;show (fA G (zA (bar (G++p.2.1)) out p.2.2.fv) l).length<=_;have h4:szA p=p.2.2.sz:=rfl;simp only[List.map_cons,List.sum_cons];omega
theorem zV4 {α β:Type} {f:α->β} {l:List α} {k:Nat} (h:k<l.length):(l.take (k+1)).map f=(l.take k).map f++[f l[k]]:=by
 rw[List.take_succ_eq_append_getElem h,List.map_append];rfl
theorem zL5 {α:Type} (w:α->Nat) (l:List α) {k:Nat} (h:k<l.length):((l.take k).map w).sum+w l[k]<=(l.map w).sum:=by
 induction l generalizing k with
 | nil=>exact absurd h (Nat.not_lt_zero k)
 | cons a l ih =>
  cases k with
  | zero=>simp
  | succ k =>
   have h1:=ih (k:=k) (by simpa using h);simp only[List.take_succ_cons,List.map_cons,List.sum_cons,List.getElem_cons_succ];omega
theorem zYY {c:Cr} (hn:c.isN=true) (ho:c.Ok):(c.kids.map Cr.sz).sum+(c.binds.map szB).sum+(c.alts.map szA).sum+1=c.sz:=by
 have h:=zM0 c ho;rw[hn] at h;simp only[if_true] at h;exact h
abbrev zFZ (c:Cr) (g out:List ByteArray):Prop:=CallsG Tryz.prog (fnv 91) [] [eC c,.sl (eSs g),.sl (eSs out)] [0,0,2] fun r o h=>r = .sl (eSs (zA (bar g) out c.fv))/\o=2/\h=[]
theorem zQI (N:Nat) (c:Cr) (hn:c.isN=true) (ho:c.Ok) (hf:c.Few) (hs:c.sz<=N+1) (hN:N<900) (g out:List ByteArray) (hg:g.length+20000*c.sz<=19000000) (hout:out.length+c.sz<=1900000)
  (ih:∀(p:Cr) (g out:List ByteArray),p.isN=true->p.Ok->p.Few->p.sz<=N->g.length+20000*p.sz<=19000000->out.length+p.sz<=1900000->zFZ p g out):zFZ c g out:=by
 have hl:=xA c ho;have hsum:=zYY hn ho;have hc0:=wI hn;show CallsG Tryz.prog (fnv 91) [] [eC c,.sl (eSs g),.sl (eSs out)] [0,0,2] _;refine zKL (first:=[]) (cap:=[]) ttok mixed Tryz.func91 rfl (by rfl) (by rfl) (Nat.le_of_ble_eq_true rfl) (Nat.le_of_ble_eq_true rfl) (by kernel_rfl) ?_;by_cases h1:c.f=1
 ·have hfv:c.fv=[c.s]:=by
   cases c with
   | node f n s t k =>
    have h1:f=1:=h1;subst h1;exact zFC _ _ _ _
   | _=>cases hn
  rw[hfv];refine Wsem.of ttok mixed ?_;refine⟨fun _=>?_,fun h=>absurd h (by simp[h1])⟩;refine .inl ⟨_,wV (l:=g) (s:=c.s) (by omega),?_⟩;refine⟨fun h2=>?_,fun h2=>?_⟩
  ·have h2:memb c.s g=false:=by simpa using h2
   refine .inl ⟨_,wV (l:=out) (s:=c.s) (by omega),?_⟩;refine⟨fun h3=>?_,fun h3=>?_⟩
   ·have h3:memb c.s out=false:=by simpa using h3
    refine⟨by rw[qA];simp only[List.length_cons,List.length_nil];omega,yI _,wC rfl,?_⟩;refine⟨?_,rfl,rfl⟩;show AV.sl (eSs out++[str c.s])=AV.sl (eSs (ins (bar g) out c.s));rw[zBB h3 h2];simp[eSs]
   ·have h3:memb c.s out=true:=by simpa using h3
    refine⟨?_,rfl,rfl⟩;show AV.sl (eSs out)=AV.sl (eSs (ins (bar g) out c.s));rw[zAG (.inl h3)]
  ·have h2:memb c.s g=true:=by simpa using h2
   refine⟨?_,rfl,rfl⟩;show AV.sl (eSs out)=AV.sl (eSs (ins (bar g) out c.s));rw[zAG (.inr h2)]
 have hout2:=zbQ hn ho h1 g out;obtain⟨G,hG⟩:∃G,G=g++c.names0:=⟨_,rfl⟩
 rw[<-hG] at hout2;have hnm:c.names0=c.own++c.binds.map (·.1):=rfl;have hol:c.own.length<=1:=by
  cases c with
  | node f n s t k=>show (if f=5 then [s] else []).length<=1;split<;>simp
  | _=>cases hn
 have hGl:G.length<=g.length+1+c.binds.length:=by rw[hG,hnm];simp only[List.length_append,List.length_map];omega
 have hG':g++c.own++c.binds.map (·.1)=G:=by rw[hG,hnm,List.append_assoc]
 have hG:=hG'.symm;have tail:Wsem Tryz.prog (y7 (y7 (y7 (y7 (y7 (bodyC Tryz.f91)))))) (mkC {vs:=[(2,.v (.sl (eSs out))),(3,.box 0 (eC c)),(7,.v (.sl (eSs (g++c.own))))],ow:=[(7,0,2),(2,0,2)]})
   (fun c2=>yX tt Tryz.f91.results.toList (fun r o h=>r = .sl (eSs (zA (bar g) out c.fv))/\o=2/\h=[]) (den c2)) (fun _ _=>False) (fun c2=>yX tt Tryz.f91.results.toList (fun r o h=>r = .sl (eSs (zA (bar g) out c.fv))/\o=2/\h=[]) (den c2)):=by
  refine Wsem.seq ttok mixed ?_;refine⟨{k:Nat // k<=c.binds.length},fun k=>{vs:=[(2,.v (.sl (eSs out))),(3,.box 0 (eC c)),(7,.v (.sl (eSs (g++c.own++(c.binds.take k.1).map (·.1))))),(8,sv (k.1:Nat))],ow:=[(7,0,2),(2,0,2)]},
   fun k=>c.binds.length-k.1,⟨0,Nat.zero_le _⟩,⟨⟨rfl,rfl,congrArg (fun l=>SV.v (AV.sl l)) (by simp),rfl,trivial⟩,⟨rfl,rfl,trivial⟩,rfl⟩,?_⟩
  rintro⟨k,hk⟩;refine⟨fun h=>?_,fun h=>?_⟩
  ·have h:k<c.binds.length:=by have h:=of_decide_eq_true h;rw[zEE] at h;simp only at h;omega
   refine⟨_,by omega,zEG h,rfl,?_⟩;refine⟨by rw[qA];simp only[List.length_append,List.length_map,List.length_take,List.length_cons,List.length_nil];omega,yI _,wC rfl,?_⟩;refine⟨⟨k+1,h⟩,by simp;omega,⟨rfl,rfl,?_,svc (wrap_succ (k:=k) (by omega)),trivial⟩,⟨rfl,rfl,trivial⟩,rfl⟩;show SV.v (AV.sl (eSs (g++c.own++(c.binds.take k).map (·.1))++[str c.binds[k].1]))=SV.v (AV.sl (eSs (g++c.own++(c.binds.take (k+1)).map (·.1))));rw[zV4 (f:=fun b:Bdg=>b.1) h,<-List.append_assoc];simp[eSs]
  have h:k=c.binds.length:=by have h:=of_decide_eq_false h;rw[zEE] at h;simp only at h;omega
  subst h;refine Wsem.cut {vs:=[(2,.v (.sl (eSs out))),(3,.box 0 (eC c)),(7,.v (.sl (eSs G)))],ow:=[(2,0,2)]} ⟨⟨rfl,rfl,by rw[List.take_length,hG];rfl,trivial⟩,⟨rfl,trivial⟩,rfl⟩ ?_;refine Wsem.seq ttok mixed ?_;refine⟨{k:Nat // k<=c.kids.length},fun k=>{vs:=[(2,.v (.sl (eSs (fK G out (c.kids.take k.1))))),(3,.box 0 (eC c)),(7,.v (.sl (eSs G))),(9,sv (k.1:Nat))],ow:=[(2,0,2)]},
   fun k=>c.kids.length-k.1,⟨0,Nat.zero_le _⟩,⟨⟨rfl,rfl,rfl,rfl,trivial⟩,⟨rfl,trivial⟩,rfl⟩,?_⟩
  rintro⟨k,hk1⟩;refine⟨fun h=>?_,fun h=>?_⟩
  ·have h:k<c.kids.length:=by have h:=of_decide_eq_true h;rw[zGW] at h;simp only at h;omega
   have hsz:=zBT (List.getElem_mem h);rw[hn] at hsz;simp only[if_true] at hsz;have hw:=zL5 Cr.sz c.kids h;have hi:=zNC G (c.kids.take k) out;refine⟨_,by omega,zJ7 h,rfl,?_⟩;refine .inr (.inr (.inr (.inr (.inl (.inr ⟨rfl,[],[],[0,0,2],_,rfl,List.nodup_nil,rfl,ih c.kids[k] G (fK G out (c.kids.take k)) (ho.kid (List.getElem_mem h)).1 (ho.kid (List.getElem_mem h)).2 (hf.kid (List.getElem_mem h)) (by omega) (by omega) (by omega),?_⟩)))));rintro _ _ _ ⟨rfl,rfl,rfl⟩;refine⟨⟨k+1,h⟩,by simp;omega,⟨?_,rfl,rfl,svc (wrap_succ (k:=k) (by omega)),trivial⟩,⟨rfl,trivial⟩,rfl⟩;show SV.v (AV.sl (eSs _))=SV.v (AV.sl (eSs _));rw[zXN h]
  have h:k=c.kids.length:=by have h:=of_decide_eq_false h;rw[zGW] at h;simp only at h;omega
  subst h;have hi1:=zNC G c.kids out;obtain⟨out1,ho1⟩:∃o,o=fK G out c.kids:=⟨_,rfl⟩
  rw[<-ho1] at hi1;refine Wsem.cut {vs:=[(2,.v (.sl (eSs out1))),(3,.box 0 (eC c)),(7,.v (.sl (eSs G)))],ow:=[(2,0,2)]} ⟨⟨by rw[List.take_length,ho1];rfl,rfl,rfl,trivial⟩,⟨rfl,trivial⟩,rfl⟩ ?_;refine Wsem.seq ttok mixed ?_;refine⟨{k:Nat // k<=c.binds.length},fun k=>{vs:=[(2,.v (.sl (eSs (fK G out1 ((bdy c).take k.1))))),(3,.box 0 (eC c)),(7,.v (.sl (eSs G))),(10,sv (k.1:Nat))],ow:=[(2,0,2)]},
   fun k=>c.binds.length-k.1,⟨0,Nat.zero_le _⟩,⟨⟨rfl,rfl,rfl,rfl,trivial⟩,⟨rfl,trivial⟩,rfl⟩,?_⟩
  rintro⟨k,hk2⟩;refine⟨fun h=>?_,fun h=>?_⟩
  ·have h:k<c.binds.length:=by have h:=of_decide_eq_true h;rw[zEE] at h;simp only at h;omega
   have h':k<(bdy c).length:=by simpa[bdy] using h
   have e':(bdy c)[k]=c.binds[k].2.2:=List.getElem_map _;have hsz:=jS (List.getElem_mem h);rw[hn] at hsz;simp only[if_true] at hsz;have hw:=zL5 Cr.sz (bdy c) h';rw[e'] at hw;have hw2:((bdy c).map Cr.sz).sum=(c.binds.map szB).sum:=by unfold bdy;rw[List.map_map];rfl
   have hi:=zNC G ((bdy c).take k) out1;refine⟨_,by omega,zEG h,rfl,?_⟩;refine .inr (.inr (.inr (.inr (.inl (.inr ⟨rfl,[],[],[0,0,2],_,rfl,List.nodup_nil,rfl,ih c.binds[k].2.2 G (fK G out1 ((bdy c).take k)) (ho.bind (List.getElem_mem h)).1 (ho.bind (List.getElem_mem h)).2 (hf.bind (List.getElem_mem h)) (by omega) (by omega) (by omega),?_⟩)))));rintro _ _ _ ⟨rfl,rfl,rfl⟩;refine⟨⟨k+1,h⟩,by simp;omega,⟨?_,rfl,rfl,svc (wrap_succ (k:=k) (by omega)),trivial⟩,⟨rfl,trivial⟩,rfl⟩;show SV.v (AV.sl (eSs _))=SV.v (AV.sl (eSs _));rw[zXN h',e']
  have h:k=c.binds.length:=by have h:=of_decide_eq_false h;rw[zEE] at h;simp only at h;omega
  subst h;have hi2:=zNC G (bdy c) out1;have hw2:((bdy c).map Cr.sz).sum=(c.binds.map szB).sum:=by unfold bdy;rw[List.map_map];rfl
  obtain⟨out2,ho2⟩:∃o,o=fK G out1 (bdy c):=⟨_,rfl⟩
  rw[<-ho2] at hi2;have e2:(bdy c).take c.binds.length=bdy c:=List.take_of_length_le (by simp[bdy]);refine Wsem.cut {vs:=[(2,.v (.sl (eSs out2))),(3,.box 0 (eC c)),(7,.v (.sl (eSs G)))],ow:=[(2,0,2)]} ⟨⟨by rw[e2,ho2];rfl,rfl,rfl,trivial⟩,⟨rfl,trivial⟩,rfl⟩ ?_;refine Wsem.seqS (Wsem.seq ttok mixed ?_);refine Wsem.block (Wsem.loop (α:={k:Nat // k<=c.alts.length}) (fun k=>{vs:=[(2,.v (.sl (eSs (fA G out2 (c.alts.take k.1))))),(3,.box 0 (eC c)),(7,.v (.sl (eSs G))),(11,sv (k.1:Nat))],ow:=[(2,0,2)]})
   (fun k=>c.alts.length-k.1) ⟨0,Nat.zero_le _⟩ ⟨⟨rfl,rfl,rfl,rfl,trivial⟩,⟨rfl,trivial⟩,rfl⟩ ?_)
  rintro⟨k,hk3⟩;refine Wsem.seq ttok mixed ?_;refine⟨fun h=>?_,fun h=>?_⟩
  ·have h:k<c.alts.length:=by have h:=of_decide_eq_true h;rw[zIH] at h;simp only at h;omega
   have hsz:=zBX (List.getElem_mem h);rw[hn] at hsz;simp only[if_true] at hsz;have hvl:=(hf.alt (List.getElem_mem h)).2;have hw:=zL5 szA c.alts h;have hwa:szA c.alts[k]=c.alts[k].2.2.sz:=rfl;have hi:=z1O G (c.alts.take k) out2;have hal:=zGE h;refine Wsem.seqS (Wsem.block ?_);refine Wsem.seq ttok mixed ?_;refine Wsem.seq ttok mixed ?_;refine⟨by show ([]:List AV).length+(eSs G).length<=_;rw[qA];simp only[List.length_nil];omega,zH5 1,yI _,?_⟩;refine Wsem.regionTA zIB ttok mixed [0,1,2,3,4,5,6,7,8,9,10,11,12,13,14,15,16] [false,false,false,false,false,false,false,false,false,false,false,false,false,false,false,true] (by kernel_rfl) ?_;refine⟨_,by omega,zGE h,rfl,?_⟩;refine⟨_,by omega,zGE h,rfl,?_⟩;refine⟨by show ([]++eSs G).length+(eSs c.alts[k].2.1).length<=_;rw[List.nil_append,qA,qA];omega,yI G,yI _,?_⟩;have hcall:=ih c.alts[k].2.2 (G++c.alts[k].2.1) (fA G out2 (c.alts.take k)) (ho.alt (List.getElem_mem h)).1 (ho.alt (List.getElem_mem h)).2.1 (hf.alt (List.getElem_mem h)).1 (by omega) (by rw[List.length_append];omega) (by omega);rw[zFZ,show eSs (G++c.alts[k].2.1)=eSs G++eSs c.alts[k].2.1 by simp[eSs]] at hcall;refine⟨[],[],[0,0,2],_,rfl,List.nodup_nil,rfl,hcall,⟨_,_,_,rfl,rfl,rfl⟩,?_⟩;rintro _ _ _ ⟨rfl,rfl,rfl⟩;refine⟨by kernel_rfl,?_⟩;refine Wsem.of ttok mixed ?_;refine⟨⟨k+1,h⟩,by simp;omega,⟨?_,rfl,rfl,svc (wrap_succ (k:=k) (by omega)),trivial⟩,⟨rfl,trivial⟩,rfl⟩;show SV.v (AV.sl (eSs _))=SV.v (AV.sl (eSs _));rw[z7A h]
  have h:k=c.alts.length:=by have h:=of_decide_eq_false h;rw[zIH] at h;simp only at h;omega
  subst h;refine Wsem.of ttok mixed ?_;rw[List.take_length];refine⟨?_,rfl,rfl⟩;show AV.sl (eSs _)=_;rw[hout2,<-ho1];show AV.sl (eSs (fA G out2 c.alts))=AV.sl (eSs (fA G (fK G out1 (bdy c)) c.alts));rw[<-ho2]
 refine Wsem.seq ttok mixed ?_;refine Wsem.seqS (Wsem.seq ttok mixed ?_);refine Wsem.cond rfl (fun h=>absurd (of_decide_eq_true h) h1) (fun _=>?_);refine Wsem.of ttok mixed ?_;refine Wsem.seq ttok mixed ?_;refine Wsem.seq ttok mixed ?_;refine⟨by rw[qA];simp only[List.length_nil];omega,zH5 1,yI _,?_⟩;refine Wsem.seqS (Wsem.seq ttok mixed ?_);refine Wsem.cond rfl (fun h=>?_) (fun h=>?_)
 ·have h5:c.f=5:=of_decide_eq_true h;have e:c.own=[c.s]:=by
   cases c with
   | node f n s t k=>show (if f=5 then [s] else [])=[s];rw[if_pos (show f=5 from h5)]
   | _=>cases hn
  refine Wsem.of ttok mixed ?_;refine⟨by show ([]++eSs g).length+1<=_;rw[List.nil_append,qA];omega,yI g,wC rfl,?_⟩;refine Wsem.cut _ ?_ tail;refine⟨⟨rfl,rfl,?_,trivial⟩,⟨rfl,rfl,trivial⟩,rfl⟩;show SV.v (AV.sl (eSs g++[str c.s]))=SV.v (AV.sl (eSs (g++c.own)));rw[e];simp[eSs]
 ·have h5:¬c.f=5:=of_decide_eq_false h;have e:c.own=[]:=by
   cases c with
   | node f n s t k=>show (if f=5 then [s] else [])=[];rw[if_neg (show ¬f=5 from h5)]
   | _=>cases hn
  refine Wsem.of ttok mixed ?_;refine Wsem.cut _ ?_ tail;refine⟨⟨rfl,rfl,?_,trivial⟩,⟨rfl,rfl,trivial⟩,rfl⟩;show SV.v (AV.sl (eSs g))=SV.v (AV.sl (eSs (g++c.own)));rw[e];simp
theorem zUD (N:Nat) (hN:N<900):∀(c:Cr) (g out:List ByteArray),c.isN=true->c.Ok->c.Few->c.sz<=N->g.length+20000*c.sz<=19000000->out.length+c.sz<=1900000->zFZ c g out:=by
 induction N with
 | zero=>intro c g out hn _ _ hs;have:=wI hn;omega
 | succ N ih=>exact fun c g out hn ho hf hs hg hout=>zQI N c hn ho hf hs (by omega) g out hg hout (ih (by omega))
theorem zDG {c:Cr} (hc:Sm c):zC Tryz.prog 45 [eC c] (.sl (eSs c.fv)):=by
 have hs:=hc.sz;refine zGQ (k:=2) ?_;refine wM (first:=[]) (cap:=[]) (os:=[]) ttok mixed Tryz.func45 rfl (by rfl) (by rfl) (Nat.le_of_ble_eq_true rfl) (Nat.le_of_ble_eq_true rfl) (by kernel_rfl) ?_;refine .inr ⟨rfl,[],[],[0,0,2],_,rfl,List.nodup_nil,rfl,zUD 600 (by decide) c [] [] hc.n hc.ok hc.gd.few (by omega) (by simp;omega) (by simp;omega),?_⟩;rintro _ _ _ ⟨rfl,rfl,rfl⟩;refine⟨?_,rfl,rfl⟩;show AV.sl (eSs (zA (fun y=>memb y []) [] c.fv))=_;rw[zXC _ (zZ3 c),List.filter_eq_self.2 (fun y _=>by simp[memb])]
theorem z3Q {l l':List ByteArray} (h:∀s,s∈l↔s∈l'):ff l=ff l':=by
 rcases Nat.lt_trichotomy (ff l) (ff l') with h1|h1|h1
 ·exact absurd ((h _).2 (zD7 l' _ h1)) (zA6 l)
 ·exact h1
 ·exact absurd ((h _).1 (zD7 l _ h1)) (zA6 l')
theorem zGR (far:List ByteArray):∀(ns tk tk':List ByteArray),(∀s,s∈tk↔s∈tk')->rens far ns tk=rens far ns tk'/\outs far ns tk=outs far ns tk'
 | [],_,_,_=>⟨rfl,rfl⟩
 | n::ns,tk,tk',h=>by
  have e:=z3Q h;simp only[rens,outs];rw[e];have h1:=zGR far ns (tk++[lett (ff tk')]) (tk'++[lett (ff tk')]) (fun s=>by simp[h s]);have h2:=zGR far ns tk tk' h;rw[h1.1,h1.2,h2.1,h2.2];exact⟨rfl,rfl⟩
noncomputable def gvn (N:Nat) (ns:List ByteArray) (ps:List Cr) (s:ByteArray) (b:Cr):List ByteArray×List Cr :=
 if s∈ps.flatMap Cr.fv/\s∉ns then (outs b.fv ns (ps.flatMap Cr.fv++b.fv++ns),ps.map fun p=>sbF N (zF6 N (rens b.fv ns (ps.flatMap Cr.fv++b.fv++ns)) p) s b) else (ns,ps)
theorem zTN {N:Nat} {ns:List ByteArray} {ps:List Cr} {s:ByteArray} {b:Cr} (h:plan (ps.flatMap Cr.fv) ns s b.fv=none):gvn N ns ps s b=(ns,ps):=by
 unfold gvn;rw[if_neg fun⟨h1,h2⟩=>h2 (zI1 h h1)]
theorem zTB {N:Nat} {ns:List ByteArray} {ps:List Cr} {s:ByteArray} {b:Cr} {rs:List (ByteArray×ByteArray)} (hn:ns.Nodup) (h:plan (ps.flatMap Cr.fv) ns s b.fv=some rs) :
  gvn N ns ps s b=(ns.map (nw rs),ps.map fun p=>sbF N (zF6 N rs p) s b):=by
 obtain⟨h1,h2,h3⟩:=zC0 h;unfold gvn;have e:=zGR b.fv ns (ps.flatMap Cr.fv++b.fv++ns) (ps.flatMap Cr.fv++ns++b.fv) (fun s=>by simp only[List.mem_append];constructor<;>(intro h;rcases h with (h|h)|h<;>simp[h]));rw[if_pos ⟨h1,h2⟩,e.1,e.2,<-h3,<-zI5 b.fv ns _ hn,<-h3]
theorem zY6 {φ:Cr->Cr} {ν:ByteArray->ByteArray} {α:List ByteArray->Cr->List ByteArray×Cr} {g:Cr} (h:g.isN=false) (ho:g.Ok) (hk:∀p∈g.kids,φ p=p) (hb:∀b∈g.binds,ν b.1=b.1/\φ b.2.2=b.2.2) (ha:∀a∈g.alts,α a.2.1 a.2.2=(a.2.1,a.2.2)):yC φ id ν α g=g:=by
 induction g with
 | nil=>rfl
 | node=>cases h
 | kid p r _ ih =>
  show Cr.kid (φ p) (yC φ id ν α r)=_;rw[hk p (List.mem_cons_self ..),ih ho.2.1 ho.2.2.2 (fun q hq=>hk q (List.mem_cons_of_mem _ hq)) hb ha]
 | bind x t p r _ ih =>
  show Cr.bind (ν x) t (φ p) (yC φ id ν α r)=_;have h1:=hb (x,t,p) (List.mem_cons_self ..);rw[show ν x=x from h1.1,show φ p=p from h1.2,ih ho.2.1 ho.2.2.2.2 hk (fun q hq=>hb q (List.mem_cons_of_mem _ hq)) ha]
 | alt f n s vs p r _ ih =>
  show Cr.alt f n s (α vs p).1 (α vs p).2 (yC φ id ν α r)=_;have h1:=ha ((f,n,s),vs,p) (List.mem_cons_self ..);rw[show α vs p=(vs,p) from h1,ih ho.2.1 ho.2.2.2.2.2.2 hk hb (fun q hq=>ha q (List.mem_cons_of_mem _ hq))]
theorem z8B (k:Nat):∀(c:Cr) (x:ByteArray) (b:Cr),c.isN=true->c.Ok->x∉c.fv->sbF k c x b=c:=by
 intro c x b hn ho hx;cases k with
 | zero=>cases c<;>rfl
 | succ k =>
  cases c with
  | node f n s t g =>
   obtain⟨g1,g2⟩:=zO ho;rw[sbF];split
   ·rename_i h1;subst h1;rw[zFC] at hx;rw[if_neg fun h=>hx (by simp[h])]
   ·rename_i h1;split
    ·rfl
    ·rename_i h7;have hfv:∀y,y∈g.fv->y∉(Cr.node f n s t g).names0->y∈(Cr.node f n s t g).fv:=fun y hy hy2=>by
      have e1:(Cr.node f n s t g).fv=zA (fun y=>memb y (Cr.node f n s t g).names0) [] g.fv:=by
       show (if f=1 then [s] else _)=_;rw[if_neg h1]
      rw[e1,mem_insAll];exact .inr ⟨hy,by cases hm:memb y (Cr.node f n s t g).names0 with|true=>exact absurd (memb_iff.1 hm) hy2|false=>rfl⟩
     have hp:plan (g.parts0.flatMap Cr.fv) (Cr.node f n s t g).names0 x b.fv=none:=by
      unfold plan;rw[if_neg];rintro⟨h3,h4⟩;obtain⟨p,hp,hxp⟩:=List.mem_flatMap.1 h3;refine hx (hfv x ?_ h4);rcases List.mem_append.1 hp with hp|hp
      ·exact fvk g1 g2 p hp x hxp
      ·obtain⟨bb,hb,rfl⟩:=List.mem_map.1 hp;exact fvb g1 g2 bb hb x hxp
     rw[hp];show Cr.node f n s t (yC id id id _ g)=_;refine congrArg (Cr.node f n s t) (zY6 g1 g2 (fun p _=>rfl) (fun b _=>⟨rfl,rfl⟩) fun a ha=>?_);have hpa:plan a.2.2.fv a.2.1 x b.fv=none:=by
      unfold plan;rw[if_neg];rintro⟨h3,h4⟩;have h5:=fva g1 g2 a ha x h3 h4;refine hx (hfv x h5 ?_);rw[zAD ho (fun e=>by rw[e] at ha;cases ha)];simp
     unfold wP;rw[hpa]
  | _=>cases hn
theorem z9B (s:ByteArray):zC Tryz.prog 105 [str s] (eC (vr s)):=by
 refine zG ttok mixed Tryz.func105 rfl (by rfl) (Nat.le_of_ble_eq_true rfl) (by kernel_rfl) ?_;exact rfl
abbrev zPG (N:Nat):Prop := ∀(d:Cr) (y:ByteArray) (b:Cr),Sm d->d.sz<=N->Sm b->zC Tryz.prog 18 [eC d,str y,eC b] (eC (sbF N d y b))
structure GvI (N:Nat) (ns:List ByteArray) (ps:List Cr) (far tk0:List ByteArray) (x:Nat×List ByteArray×List Cr×List ByteArray):Prop where
 le:x.1<=ns.length
 tk:x.2.1.length<=tk0.length+x.1
 len:x.2.2.1.length=ps.length
 sm:∀q∈x.2.2.1,Sm q/\q.sz<=N
 out:x.2.2.2++outs far (ns.drop x.1) x.2.1=outs far ns tk0
 dn:x.2.2.2.length=x.1
 bod:x.2.2.1.map (zF6 N (rens far (ns.drop x.1) x.2.1))=ps.map (zF6 N (rens far ns tk0))
theorem GvI.stay {N:Nat} {ns:List ByteArray} {ps:List Cr} {far tk0:List ByteArray} {k:Nat} {tk:List ByteArray} {qs:List Cr} {dn:List ByteArray} (h:GvI N ns ps far tk0 (k,tk,qs,dn)) (hk:k<ns.length) (hf:ns[k]∉far) :
  GvI N ns ps far tk0 (k+1,tk,qs,dn++[ns[k]]):=by
 obtain⟨a1,a2,a3,a4,a5,a6,a7⟩:=h;simp only at a1 a2 a3 a4 a5 a6 a7;rw[List.drop_eq_getElem_cons hk] at a5 a7;simp only[outs,rens] at a5 a7;rw[if_neg hf] at a5 a7;exact⟨hk,by simp only;omega,a3,a4,by rw[<-a5];simp,by simp[a6],a7⟩
theorem GvI.new {N:Nat} {ns:List ByteArray} {ps:List Cr} {far tk0:List ByteArray} {k:Nat} {tk:List ByteArray} {qs:List Cr} {dn:List ByteArray} (h:GvI N ns ps far tk0 (k,tk,qs,dn)) (hk:k<ns.length) (hf:ns[k]∈far) :
  GvI N ns ps far tk0 (k+1,tk++[lett (ff tk)],qs.map (fun q=>sbF N q ns[k] (vr (lett (ff tk)))),dn++[lett (ff tk)]):=by
 obtain⟨a1,a2,a3,a4,a5,a6,a7⟩:=h;simp only at a1 a2 a3 a4 a5 a6 a7;rw[List.drop_eq_getElem_cons hk] at a5 a7;simp only[outs,rens] at a5 a7;rw[if_pos hf] at a5 a7;refine⟨hk,by simp only[List.length_append,List.length_cons,List.length_nil];omega,by simp[a3],fun q hq=>?_,by rw[<-a5];simp,by simp[a6],?_⟩
 ·obtain⟨p,hp,rfl⟩:=List.mem_map.1 hq;have h1:=(a4 p hp).1.sb N ns[k] (lett (ff tk));exact⟨h1.1,by rw[h1.2];exact (a4 p hp).2⟩
 ·rw[<-a7,List.map_map]
  rfl
theorem z2A (s:ByteArray) (l m:List ByteArray):memb s (l++m)=(memb s l || memb s m):=by
 rw[Bool.eq_iff_iff];simp[memb]
theorem zLV {l:List Cr} {k:Nat} (h:k<l.length):(l.take (k+1)).flatMap Cr.fv=(l.take k).flatMap Cr.fv++l[k].fv:=by
 rw[List.take_succ_eq_append_getElem h,List.flatMap_append];simp
theorem zTS (l:List Cr) (k:Nat):((l.take k).flatMap Cr.fv).length<=(l.flatMap Cr.fv).length:=by
 conv=>rhs;rw[<-List.take_append_drop k l]
 rw[List.flatMap_append,List.length_append];omega
theorem zMN (N:Nat) (ih:zPG N) (ns:List ByteArray) (ps:List Cr) (s:ByteArray) (b:Cr) (hnl:ns.length<=591) (hpl:ps.length<=591) (hps:∀p∈ps,Sm p/\p.sz<=N) (hfl:(ps.flatMap Cr.fv).length<=590) (hb:Sm b) :
  zC Tryz.prog 60 [.sl (eSs ns),.sl (eCs ps),str s,eC b] (.tup [.sl (eSs (gvn N ns ps s b).1),.sl (eCs (gvn N ns ps s b).2)]):=by
 have hbl:=qP b;have hbs:=hb.sz;obtain⟨X,hX⟩:∃X,X=gvn N ns ps s b:=⟨_,rfl⟩
 rw[<-hX];unfold gvn at hX;refine zY ttok mixed Tryz.func60 rfl (by rfl) (Nat.le_of_ble_eq_true rfl) (by kernel_rfl) ?_;refine Wsem.seq ttok mixed ?_;refine Wsem.seq ttok mixed ?_;refine Wsem.seq ttok mixed ?_;refine Wsem.seqS (Wsem.seq ttok mixed ?_);refine Wsem.of ttok mixed ?_;refine⟨{k:Nat // k<=ps.length},fun k=>{vs:=[(0,.v (.sl (eSs ns))),(1,.v (.sl (eCs ps))),(2,.v (str s)),(7,.box 0 (eC b)),(8,.v (.sl [])),(9,.v (.sl [])),(10,.v (.sl (eSs ((ps.take k.1).flatMap Cr.fv)))),(11,.v (.sb (memb s ((ps.take k.1).flatMap Cr.fv)))),(12,sv (k.1:Nat))],ow:=[(10,0,2)]},
  fun k=>ps.length-k.1,⟨0,Nat.zero_le _⟩,⟨⟨rfl,rfl,rfl,rfl,rfl,rfl,rfl,rfl,rfl,trivial⟩,⟨trivial,trivial⟩,rfl⟩,?_⟩
 rintro⟨k,hk⟩;refine⟨fun h=>?_,fun h=>?_⟩
 ·have h:k<ps.length:=by have h:=of_decide_eq_true h;simp only[eCs,List.length_map] at h;omega
  have hp:=hps _ (List.getElem_mem h);have hw1:=zTS ps k;have hw2:=zTS ps (k+1);have e10:eSs ((ps.take k).flatMap Cr.fv)++eSs ps[k].fv=eSs ((ps.take (k+1)).flatMap Cr.fv):=by rw[zLV h];simp[eSs]
  have e11:memb s ((ps.take (k+1)).flatMap Cr.fv)=(memb s ((ps.take k).flatMap Cr.fv) || memb s ps[k].fv):=by rw[zLV h,z2A]
  have hfk:=qP ps[k];have hsk:=hp.1.sz;refine⟨_,by omega,zX8 h,rfl,?_⟩;refine .inl ⟨_,zDG hp.1,?_⟩;refine⟨by simp only[eSs,List.length_map];omega,yI _,yI _,?_⟩;refine⟨fun h2=>?_,fun h2=>?_⟩
  ·refine .inl ⟨_,wV (l:=ps[k].fv) (s:=s) (by omega),?_⟩;refine⟨⟨k+1,h⟩,by simp;omega,⟨rfl,rfl,rfl,rfl,rfl,rfl,congrArg (fun l=>SV.v (AV.sl l)) e10,?_,svc (wrap_succ (k:=k) (by omega)),trivial⟩,⟨rfl,trivial⟩,rfl⟩;have h2:memb s ((ps.take k).flatMap Cr.fv)=false:=by simpa using h2
   rw[e11,h2];rfl
  ·refine⟨⟨k+1,h⟩,by simp;omega,⟨rfl,rfl,rfl,rfl,rfl,rfl,congrArg (fun l=>SV.v (AV.sl l)) e10,?_,svc (wrap_succ (k:=k) (by omega)),trivial⟩,⟨rfl,trivial⟩,rfl⟩;have h2:memb s ((ps.take k).flatMap Cr.fv)=true:=by simpa using h2
   rw[e11,h2];rfl
 have h:k=ps.length:=by have h:=of_decide_eq_false h;simp only[eCs,List.length_map] at h;omega
 subst h;refine Wsem.cut {vs:=[(0,.v (.sl (eSs ns))),(1,.v (.sl (eCs ps))),(2,.v (str s)),(7,.box 0 (eC b)),(8,.v (.sl [])),(9,.v (.sl [])),(10,.v (.sl (eSs (ps.flatMap Cr.fv)))),(11,.v (.sb (memb s (ps.flatMap Cr.fv))))],ow:=[(10,0,2)]} ⟨⟨rfl,rfl,rfl,rfl,rfl,rfl,by rw[List.take_length];rfl,by rw[List.take_length];rfl,trivial⟩,⟨rfl,trivial⟩,rfl⟩ ?_;obtain⟨fr,hfr⟩:∃l,l=ps.flatMap Cr.fv:=⟨_,rfl⟩
 rw[<-hfr] at hfl hX⊢;have key:s∈fr->s∉ns->Wsem Tryz.prog (y7 (y7 (y7 (y7 (y7 (bodyC Tryz.f60)))))) (mkC {vs:=[(0,.v (.sl (eSs ns))),(1,.v (.sl (eCs ps))),(2,.v (str s)),(7,.box 0 (eC b)),(8,.v (.sl [])),(9,.v (.sl [])),(10,.v (.sl (eSs fr)))],ow:=[(10,0,2)]})
   (fun c=>jM tt Tryz.f60.results.toList (.tup [.sl (eSs X.1),.sl (eCs X.2)]) (den c)) (fun _ _=>False) (fun c=>jM tt Tryz.f60.results.toList (.tup [.sl (eSs X.1),.sl (eCs X.2)]) (den c)):=by
  intro hs1 hs2;rw[if_pos ⟨hs1,hs2⟩] at hX;subst hX;obtain⟨tk0,htk⟩:∃l,l=fr++b.fv++ns:=⟨_,rfl⟩
  rw[<-htk];have htl:tk0.length<=590+590+591:=by rw[htk];simp only[List.length_append];omega
  refine Wsem.seq ttok mixed ?_;refine .inl ⟨_,zDG hb,?_⟩;refine Wsem.seq ttok mixed ?_;refine⟨by rw[qA,qA];omega,yI _,yI _,?_⟩;refine Wsem.seq ttok mixed ?_;refine⟨by rw[List.length_append,qA,qA,qA];omega,fun a ha=>by rcases List.mem_append.1 ha with h|h<;>exact yI _ _ h,yI _,?_⟩;refine Wsem.cut {vs:=[(0,.v (.sl (eSs ns))),(1,.v (.sl (eCs ps))),(2,.v (str s)),(7,.box 0 (eC b)),(8,.v (.sl [])),(9,.v (.sl [])),(10,.v (.sl (eSs tk0))),(14,.v (.sl (eSs b.fv)))],ow:=[(10,0,2)]} ⟨⟨rfl,rfl,rfl,rfl,rfl,rfl,by rw[htk];exact congrArg (fun l=>SV.v (AV.sl l)) (by simp[eSs]),rfl,trivial⟩,⟨rfl,trivial⟩,rfl⟩ ?_;refine Wsem.seq ttok mixed ?_;refine Wsem.seq ttok mixed ?_;refine⟨{x:Nat×List ByteArray×List Cr×List ByteArray // GvI N ns ps b.fv tk0 x},fun x=>{vs:=[(0,.v (.sl (eSs ns))),(1,.v (.sl (eCs x.1.2.2.1))),(2,.v (str s)),(7,.box 0 (eC b)),(8,.v (.sl [])),(9,.v (.sl [])),(10,.v (.sl (eSs x.1.2.1))),(14,.v (.sl (eSs b.fv))),(15,.v (.sl (eSs x.1.2.2.2))),(16,sv (x.1.1:Nat))],ow:=[(10,0,2),(15,0,2)]},
   fun x=>ns.length-x.1.1,⟨(0,tk0,ps,[]),⟨Nat.zero_le _,Nat.le_refl _,rfl,hps,rfl,rfl,rfl⟩⟩,⟨⟨rfl,rfl,rfl,rfl,rfl,rfl,rfl,rfl,rfl,rfl,trivial⟩,⟨rfl,trivial,trivial⟩,rfl⟩,?_⟩
  rintro⟨⟨k,tk,qs,dn⟩,inv⟩;have hk:k<=ns.length:=inv.le;have hql:qs.length=ps.length:=inv.len;have htkl:tk.length<=tk0.length+k:=inv.tk;have hdl:dn.length=k:=inv.dn;refine⟨fun h=>?_,fun h=>?_⟩
  ·have h:k<ns.length:=by have h:=of_decide_eq_true h;rw[qA] at h;simp only at h;omega
   refine⟨_,by omega,zEK h,rfl,?_⟩;refine .inl ⟨_,wV (l:=b.fv) (s:=ns[k]) (by omega),?_⟩;refine⟨fun h3=>?_,fun h3=>?_⟩
   ·have h3:ns[k]∉b.fv:=fun hm=>by rw[memb_iff.2 hm] at h3;cases h3
    refine⟨_,by omega,zEK h,rfl,?_⟩;refine⟨by rw[qA];simp only[List.length_cons,List.length_nil];omega,yI _,wC rfl,?_⟩;refine⟨⟨(k+1,tk,qs,dn++[ns[k]]),inv.stay h h3⟩,by simp;omega,⟨rfl,rfl,rfl,rfl,rfl,rfl,rfl,rfl,?_,svc (wrap_succ (k:=k) (by omega)),trivial⟩,⟨rfl,rfl,trivial⟩,rfl⟩;exact congrArg (fun l=>SV.v (AV.sl l)) (by simp[eSs];rfl)
   have h3:ns[k]∈b.fv:=by
    cases hm:memb ns[k] b.fv with
    | true=>exact memb_iff.1 hm
    | false=>rw[hm] at h3;cases h3
   have inv2:=inv.new h h3;have hff:=zCP tk;refine .inl ⟨_,zI8 tk (by omega) (by omega),?_⟩;generalize lett (ff tk)=z at inv2;refine⟨by rw[qA];simp only[List.length_cons,List.length_nil];omega,yI _,wC rfl,?_⟩;refine⟨by rw[qA];simp only[List.length_cons,List.length_nil];omega,yI _,wC rfl,?_⟩;refine⟨{j:Nat // j<=qs.length},fun j=>{vs:=[(0,.v (.sl (eSs ns))),(1,.v (.sl (eCs qs))),(2,.v (str s)),(7,.box 0 (eC b)),(8,.v (.sl [])),(9,.v (.sl [])),(10,.v (.sl (eSs (tk++[z])))),(14,.v (.sl (eSs b.fv))),(15,.v (.sl (eSs (dn++[z])))),(16,sv (k:Nat)),(17,.v (str z)),(18,.v (.sl ((qs.take j.1).map fun q=>eC (sbF N q ns[k] (vr z))))),(19,sv (j.1:Nat))],ow:=[(10,0,2),(15,0,2),(18,0,11)]},
    fun j=>qs.length-j.1,⟨0,Nat.zero_le _⟩,⟨⟨rfl,rfl,rfl,rfl,rfl,rfl,congrArg (fun l=>SV.v (AV.sl l)) (by simp[eSs];rfl),rfl,congrArg (fun l=>SV.v (AV.sl l)) (by simp[eSs];rfl),rfl,rfl,rfl,rfl,trivial⟩,⟨rfl,rfl,trivial,trivial⟩,rfl⟩,?_⟩
   rintro⟨j,hj⟩;refine⟨fun h4=>?_,fun h4=>?_⟩
   ·have h4:j<qs.length:=by have h4:=of_decide_eq_true h4;simp only[eCs,List.length_map] at h4;omega
    have hq:=inv.sm _ (List.getElem_mem h4);refine⟨_,by omega,zX8 h4,rfl,?_⟩;refine⟨_,by omega,zEK h,rfl,?_⟩;refine .inl ⟨_,z9B z,?_⟩;refine .inl ⟨_,ih qs[j] ns[k] (vr z) hq.1 hq.2 (zK8 z),?_⟩;refine⟨by simp;omega,fun a ha=>by obtain⟨x,_,rfl⟩:=List.mem_map.1 ha;rfl,wC rfl,?_⟩;refine⟨by kernel_rfl,?_⟩;refine⟨⟨j+1,h4⟩,by simp;omega,⟨rfl,rfl,rfl,rfl,rfl,rfl,rfl,rfl,rfl,rfl,rfl,?_,svc (wrap_succ (k:=j) (by omega)),trivial⟩,⟨rfl,rfl,rfl,trivial⟩,rfl⟩;exact congrArg (fun l=>SV.v (AV.sl l)) (zHF (f:=fun q=>eC (sbF N q ns[k] (vr z))) h4).symm
   have h4:j=qs.length:=by have h4:=of_decide_eq_false h4;simp only[eCs,List.length_map] at h4;omega
   subst h4;refine⟨⟨_,inv2⟩,by simp;omega,⟨rfl,?_,rfl,rfl,rfl,rfl,rfl,rfl,rfl,svc (wrap_succ (k:=k) (by omega)),trivial⟩,⟨rfl,rfl,trivial⟩,rfl⟩;show SV.v (AV.sl _)=SV.v (AV.sl (eCs (qs.map _)));rw[List.take_length,eCs,List.map_map];rfl
  have h:k=ns.length:=by have h:=of_decide_eq_false h;rw[qA] at h;simp only at h;omega
  subst h;have hout:=inv.out;have hbod:=inv.bod;have hsm:=inv.sm;simp only[List.drop_length,outs,rens,List.append_nil] at hout hbod hsm;have hbod:qs=ps.map (zF6 N (rens b.fv ns tk0)):=by rw[<-hbod];exact (List.map_id' qs).symm
  rw[<-hout];have hres:(ps.map fun p=>sbF N (zF6 N (rens b.fv ns tk0) p) s b)=qs.map fun q=>sbF N q s b:=by rw[hbod,List.map_map];rfl
  rw[hres];refine Wsem.cut {vs:=[(1,.v (.sl (eCs qs))),(2,.v (str s)),(7,.box 0 (eC b)),(8,.v (.sl [])),(9,.v (.sl [])),(15,.v (.sl (eSs dn)))],ow:=[]} ⟨⟨rfl,rfl,rfl,rfl,rfl,rfl,trivial⟩,trivial,rfl⟩ ?_;refine Wsem.seq ttok mixed ?_;refine Wsem.seq ttok mixed ?_;refine⟨{j:Nat // j<=qs.length},fun j=>{vs:=[(1,.v (.sl (eCs qs))),(2,.v (str s)),(7,.box 0 (eC b)),(8,.v (.sl [])),(9,.v (.sl [])),(15,.v (.sl (eSs dn))),(20,.v (.sl ((qs.take j.1).map fun q=>eC (sbF N q s b)))),(21,sv (j.1:Nat))],ow:=[(20,0,11)]},
   fun j=>qs.length-j.1,⟨0,Nat.zero_le _⟩,⟨⟨rfl,rfl,rfl,rfl,rfl,rfl,rfl,rfl,trivial⟩,⟨trivial,trivial⟩,rfl⟩,?_⟩
  rintro⟨j,hj⟩;refine⟨fun h4=>?_,fun h4=>?_⟩
  ·have h4:j<qs.length:=by have h4:=of_decide_eq_true h4;simp only[eCs,List.length_map] at h4;omega
   have hq:=hsm _ (List.getElem_mem h4);refine⟨_,by omega,zX8 h4,rfl,?_⟩;refine .inl ⟨_,ih qs[j] s b hq.1 hq.2 hb,?_⟩;refine⟨by simp;omega,fun a ha=>by obtain⟨x,_,rfl⟩:=List.mem_map.1 ha;rfl,wC rfl,?_⟩;refine⟨by kernel_rfl,?_⟩;refine⟨⟨j+1,h4⟩,by simp;omega,⟨rfl,rfl,rfl,rfl,rfl,rfl,?_,svc (wrap_succ (k:=j) (by omega)),trivial⟩,⟨rfl,trivial⟩,rfl⟩;exact congrArg (fun l=>SV.v (AV.sl l)) (zHF (f:=fun q=>eC (sbF N q s b)) h4).symm
  have h4:j=qs.length:=by have h4:=of_decide_eq_false h4;simp only[eCs,List.length_map] at h4;omega
  subst h4;refine Wsem.of ttok mixed ?_;rw[List.take_length];show _=AV.tup [.sl (eSs dn),.sl (eCs (qs.map fun q=>sbF N q s b))];rw[eCs,List.map_map];exact rfl
 refine Wsem.seqS (Wsem.seq ttok mixed ?_);refine⟨fun h2=>?_,fun h2=>?_⟩
 ·have h2:s∈fr:=by
   cases hm:memb s fr with
   | true=>exact memb_iff.1 hm
   | false=>rw[hm] at h2;cases h2
  refine .inl ⟨_,wV (l:=ns) (s:=s) (by omega),?_⟩;refine Wsem.cond rfl (fun h3=>?_) (fun h3=>?_)
  ·have h3:s∈ns:=memb_iff.1 h3;rw[if_neg fun h=>h.2 h3] at hX;subst hX;refine Wsem.of ttok mixed ?_;exact rfl
  ·have h3:s∉ns:=fun hm=>by rw[memb_iff.2 hm] at h3;cases h3
   refine Wsem.of ttok mixed ?_;refine Wsem.cut _ ?_ (key h2 h3);exact⟨⟨rfl,rfl,rfl,rfl,rfl,rfl,rfl,trivial⟩,⟨rfl,trivial⟩,rfl⟩
 ·have h2:s∉fr:=fun hm=>by rw[memb_iff.2 hm] at h2;cases h2
  rw[if_neg fun h=>h2 h.1] at hX;subst hX;refine Wsem.of ttok mixed ?_;exact rfl
noncomputable abbrev aP (N:Nat) (x:ByteArray) (b:Cr):List ByteArray->Cr->List ByteArray×Cr:=wP (fun rs p=>sbF N (rs.foldl (fun p q=>sbF N p q.1 (vr q.2)) p) x b) x b.fv
theorem z7Q {N:Nat} {vs:List ByteArray} {p:Cr} {x:ByteArray} {b:Cr} (hv:vs.Nodup):gvn N vs [p] x b=((aP N x b vs p).1,[(aP N x b vs p).2]):=by
 have e:[p].flatMap Cr.fv=p.fv:=by simp
 unfold aP wP;cases hp:plan p.fv vs x b.fv with
 | none=>rw[zTN (by rw[e];exact hp)]
 | some rs=>rw[zTB hv (by rw[e];exact hp)];rfl
theorem zVZ (N:Nat) {f n:Int} {s:ByteArray} {t:Tp} {g:Cr} (ho:(Cr.node f n s t g).Ok) (h1:¬f=1) (h7:¬f=7) (x:ByteArray) (b:Cr):∃(φ:Cr->Cr) (ν:ByteArray->ByteArray),
  gvn N (Cr.node f n s t g).names0 g.parts0 x b=((Cr.node f n s t g).names0.map ν,g.parts0.map φ)/\((Cr.node f n s t g).names0=[]->φ=(fun p=>sbF N p x b)∨(φ=id/\x∉g.parts0.flatMap Cr.fv)) /\
  sbF (N+1) (.node f n s t g) x b = .node f n (if f=5 then ν s else s) t (yC φ id ν (aP N x b) g):=by
 rw[sbF,if_neg h1,if_neg h7];cases hp:plan (g.parts0.flatMap Cr.fv) (Cr.node f n s t g).names0 x b.fv with
 | none =>
  refine⟨id,id,by rw[zTN hp];simp,fun h => .inr ⟨rfl,fun hx=>?_⟩,by simp⟩;have:=zI1 hp hx;rw[h] at this;cases this
 | some rs =>
  refine⟨fun p=>sbF N (zF6 N rs p) x b,nw rs,zTB (zEC ho) hp,fun h => .inl ?_,rfl⟩;obtain⟨_,_,h3⟩:=zC0 hp;rw[h,rens] at h3;subst h3
  rfl
theorem z8D (N:Nat) (n:Int) (s:ByteArray) (t:Tp) (g:Cr) (x:ByteArray) (b:Cr) (hc:Sm (.node 1 n s t g)) (hb:Sm b):zC Tryz.prog 18 [eC (.node 1 n s t g),str x,eC b] (eC (sbF (N+1) (.node 1 n s t g) x b)):=by
 have hfw:=zBS hc.n hc.ok;have law1:s=x->sbF (N+1) (.node 1 n s t g) x b=b:=fun h=>by rw[sbF,if_pos rfl,if_pos h]
 have law2:¬s=x->sbF (N+1) (.node 1 n s t g) x b = .node 1 n s t g:=fun h=>by rw[sbF,if_pos rfl,if_neg h]
 generalize sbF (N+1) (.node 1 n s t g) x b=X at law1 law2;refine zY ttok mixed Tryz.func18 rfl (by rfl) (Nat.le_of_ble_eq_true rfl) (by kernel_rfl) ?_;refine Wsem.seq ttok mixed ?_;refine Wsem.cut {vs:=[(1,.v (str x)),(3,.box 0 (eC (.node 1 n s t g))),(5,.box 0 (eC b)),(6,.box 0 eZ)]} ⟨⟨rfl,rfl,rfl,rfl,trivial⟩,trivial,rfl⟩ ?_;refine Wsem.seq ttok mixed ?_;refine .inl ⟨_,hfw,?_⟩;refine⟨fun h=>absurd h (by decide),fun _=>?_⟩;refine Wsem.cut {vs:=[(1,.v (str x)),(3,.box 0 (eC (.node 1 n s t g))),(5,.box 0 (eC b)),(6,.box 0 eZ)]} ⟨⟨rfl,rfl,rfl,rfl,trivial⟩,trivial,rfl⟩ ?_;refine Wsem.seqS (Wsem.seq ttok mixed ?_);refine Wsem.block ?_;refine Wsem.seq ttok mixed ?_;refine Wsem.cond rfl (fun _=>?_) (fun h=>absurd h (by simp[Cr.f]));refine Wsem.of ttok mixed ?_;refine⟨fun h=>?_,fun h=>?_⟩
 ·have h:s=x:=of_decide_eq_true h;rw[law1 h];exact rfl
 ·have h:¬s=x:=of_decide_eq_false h;rw[law2 h];exact rfl
end Go.Proofs.YtgonkhaebmfgiaaGreatDoor
