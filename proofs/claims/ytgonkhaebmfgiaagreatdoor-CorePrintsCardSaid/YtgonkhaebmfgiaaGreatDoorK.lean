/- Subst: the groups, one after the other. No condition but that there is little. -/
import Derived.Test.YtgonkhaebmfgiaaGreatDoorI
set_option linter.unusedSimpArgs false
set_option linter.unusedVariables false
namespace Go.Proofs.YtgonkhaebmfgiaaGreatDoor
open Go Fp
set_option maxRecDepth 10000
set_option maxHeartbeats 16000000
set_option linter.unusedVariables false
section
variable {ren:ByteArray->ByteArray->Cr->Cr} {fin:Cr->Cr} {far:List ByteArray} {y:ByteArray}
theorem AdOk.renL {ad:Ad} {ps:List Pp}:∀{qs:List Pn} {tk:List ByteArray} {x:Nd},AdOk ad x->AdOk ad (renL ren far ps qs tk x)
 | [],_,_,h=>h
 | q::qs,tk,x,h=>by
  unfold Proofs.YtgonkhaebmfgiaaGreatDoor.renL;split
  ·rename_i n hn;split
   ·refine AdOk.renL ?_;have hn2:yI (Go.Proofs.YtgonkhaebmfgiaaGreatDoor.updP (ren n (lett (ff tk))) ps x) q=some n:=by rw[xA];exact hn
    obtain⟨_,_,_,_,_,r⟩:=zII (h.updP (φ:=ren n (lett (ff tk))) (ps:=ps)) hn2;exact (r _).2
   ·exact AdOk.renL h
  ·exact AdOk.renL h
theorem AdOk.putX {ad:Ad} {g:List Pn×List Pp} {x:Nd} (h:AdOk ad x):AdOk ad (putX ren fin far y g x):=by
 unfold Proofs.YtgonkhaebmfgiaaGreatDoor.putX;split
 ·exact h.renL.updP
 ·exact h
theorem zUK {g:List Pn×List Pp} {x:Nd} {p:Pp} (hp:p∉g.2):zX (putX ren fin far y g x) p=zX x p:=by
 unfold putX;split
 ·rw[zBZ hp,zDS hp]
 ·rfl
theorem zT3 {g:List Pn×List Pp} {x:Nd} {q:Pn} (hq:q∉g.1):yI (putX ren fin far y g x) q=yI x q:=by
 unfold putX;split
 ·rw[xA,zAL hq]
 ·rfl
noncomputable def putAll (ren:ByteArray->ByteArray->Cr->Cr) (fin:Cr->Cr) (far:List ByteArray) (y:ByteArray) (gs:List (List Pn×List Pp)) (x:Nd):Nd:=gs.foldl (fun x g=>putX ren fin far y g x) x
theorem AdOk.putAll {ad:Ad}:∀{gs:List (List Pn×List Pp)} {x:Nd},AdOk ad x->AdOk ad (putAll ren fin far y gs x)
 | [],_,h=>h
 | g::gs,x,h=>AdOk.putAll (gs:=gs) h.putX
theorem wZ {p:Pp}:∀{gs:List (List Pn×List Pp)} {x:Nd},p∉gs.flatMap (·.2)->zX (putAll ren fin far y gs x) p=zX x p
 | [],_,_=>rfl
 | g::gs,x,h=>by
  rw[List.flatMap_cons,List.mem_append,not_or] at h;show zX (putAll ren fin far y gs (putX ren fin far y g x)) p=_;rw[wZ h.2,zUK h.1]
theorem qC {q:Pn}:∀{gs:List (List Pn×List Pp)} {x:Nd},q∉gs.flatMap (·.1)->yI (putAll ren fin far y gs x) q=yI x q
 | [],_,_=>rfl
 | g::gs,x,h=>by
  rw[List.flatMap_cons,List.mem_append,not_or] at h;show yI (putAll ren fin far y gs (putX ren fin far y g x)) q=_;rw[qC h.2,zT3 h.1]
end
def zVN (x:Nd):List Pn:=(zS x).flatMap (·.1)
theorem zFB (x:Nd):(zVN x).Nodup:=by
 unfold zVN zS;rw[List.flatMap_cons];have hv:∀l:List Nat,l.Nodup->((l.map fun j=>(((List.range (nvs x j)).map (Pn.var j),[Pp.alt j]):List Pn×List Pp)).flatMap (·.1)).Nodup/\∀q∈(l.map fun j=>(((List.range (nvs x j)).map (Pn.var j),[Pp.alt j]):List Pn×List Pp)).flatMap (·.1),∃j i,j∈l/\q = .var j i:=by
  intro l;induction l with
  | nil=>intro _;exact⟨List.nodup_nil,fun q hq=>by cases hq⟩
  | cons j l ih =>
   intro hn;obtain⟨h1,h2⟩:=List.nodup_cons.1 hn;obtain⟨i1,i2⟩:=ih h2;rw[List.map_cons,List.flatMap_cons];refine⟨List.nodup_append.2 ⟨List.Pairwise.map _ (fun a b h e=>h (by injection e)) List.nodup_range,i1,?_⟩,?_⟩
   ·intro a ha b hb e;obtain⟨i,_,rfl⟩:=List.mem_map.1 ha;obtain⟨j',i',hj',rfl⟩:=i2 b hb;injection e with e1 e2
    exact h1 (e1 ▸ hj')
   ·intro q hq;rcases List.mem_append.1 hq with hq|hq
    ·obtain⟨i,_,rfl⟩:=List.mem_map.1 hq;exact⟨j,i,by simp,rfl⟩
    ·obtain⟨j',i',hj',rfl⟩:=i2 q hq;exact⟨j',i',by simp[hj'],rfl⟩
 obtain⟨h1,h2⟩:=hv (List.range x.ls.length) List.nodup_range;refine List.nodup_append.2 ⟨?_,h1,?_⟩
 ·show (zH1 x).Nodup;unfold zH1;refine List.nodup_append.2 ⟨by split<;>simp,List.Pairwise.map _ (fun a b h e=>h (by injection e)) List.nodup_range,?_⟩;intro a ha b hb e;obtain⟨i,_,rfl⟩:=List.mem_map.1 hb;split at ha
  ·simp at ha;subst ha;cases e
  ·cases ha
 ·intro a ha b hb e;obtain⟨j,i,_,rfl⟩:=h2 b hb;rcases List.mem_append.1 (show a∈zH1 x from ha) with ha|ha
  ·split at ha
   ·simp at ha;subst ha;cases e
   ·cases ha
  ·obtain⟨i,_,rfl⟩:=List.mem_map.1 ha;cases e
theorem zM9 {x:Nd} {k:Nat} {G:List Pn×List Pp} {q:Pn} (hG:(zS x)[k]? = some G) (hq:q∈G.1):q∉((zS x).take k).flatMap (·.1):=by
 obtain⟨hk1,hk2⟩:=List.getElem?_eq_some_iff.1 hG;have e1:zS x=(zS x).take k++G::(zS x).drop (k+1):=by
  rw[<-hk2,<-List.drop_eq_getElem_cons hk1,List.take_append_drop]
 have hn:=zFB x;unfold zVN at hn;rw[e1,List.flatMap_append,List.flatMap_cons] at hn;intro hm;exact (List.nodup_append.1 hn).2.2 q hm q (by simp[hq]) rfl
theorem zI9 {x:Nd} {k:Nat} {G:List Pn×List Pp} {p:Pp} (hG:(zS x)[k]? = some G) (hp:p∈G.2):p∉((zS x).take k).flatMap (·.2):=by
 obtain⟨j,hj⟩:=List.getElem?_of_mem hp;intro hm;exact zS5 hG hj (List.mem_append_left _ hm)
theorem zEZ {x:Nd} {G:List Pn×List Pp} (hG:G∈zS x):G.1.Nodup/\G.2.Nodup:=by
 obtain⟨l1,l2,e⟩:=List.append_of_mem hG;have h1:=zFB x;have h2:=zET x;unfold zVN at h1;unfold zMQ at h2;rw[e,List.flatMap_append,List.flatMap_cons] at h1 h2;exact⟨(List.nodup_append.1 (List.nodup_append.1 h1).2.1).1,(List.nodup_append.1 (List.nodup_append.1 h2).2.1).1⟩
theorem zB4 {x:Nd}:∀g∈zS x,∀q∈g.1,∃n,yI x q=some n:=by
 intro g hg q hq;rcases List.mem_cons.1 hg with rfl|hg
 ·rcases List.mem_append.1 (show q∈zH1 x from hq) with h|h
  ·split at h
   ·rename_i h5;simp at h;subst h;exact⟨x.s,if_pos h5⟩
   ·cases h
  ·obtain⟨j,hj,rfl⟩:=List.mem_map.1 h;exact⟨_,by show (x.bs[j]?).map _=_;rw[List.getElem?_eq_getElem (List.mem_range.1 hj)];rfl⟩
 ·obtain⟨j,hj,rfl⟩:=List.mem_map.1 hg;obtain⟨i,hi,rfl⟩:=List.mem_map.1 hq;have hj:=List.mem_range.1 hj;have hi:i<nvs x j:=List.mem_range.1 hi;unfold nvs at hi;rw[List.getElem?_eq_getElem hj] at hi;exact⟨_,by show (x.ls[j]?).bind _=_;rw[List.getElem?_eq_getElem hj];exact List.getElem?_eq_getElem hi⟩
theorem zU8 (g:Cr):(g.kids.flatMap Cr.fv).length+(g.binds.flatMap fun b=>b.2.2.fv).length+(g.alts.flatMap fun a=>a.2.2.fv).length<=g.sz:=by
 induction g with
 | nil=>simp[Cr.kids,Cr.binds,Cr.alts]
 | node f n s t g ih=>simp only[Cr.kids,Cr.binds,Cr.alts,Cr.sz];omega
 | kid p r _ ih=>have:=zEV p;simp only[Cr.kids,Cr.binds,Cr.alts,Cr.sz,List.flatMap_cons,List.length_append] at ih⊢;omega
 | bind x t p r _ ih=>have:=zEV p;simp only[Cr.kids,Cr.binds,Cr.alts,Cr.sz,List.flatMap_cons,List.length_append] at ih⊢;omega
 | alt f n s vs p r _ ih=>have:=zEV p;simp only[Cr.kids,Cr.binds,Cr.alts,Cr.sz,List.flatMap_cons,List.length_append] at ih⊢;omega
theorem zAT {α β:Type} (l:List α) (f:Nat->List β) (h:α->List β) (e:∀j (hj:j<l.length),f j=h l[j]):(List.range l.length).flatMap f=l.flatMap h:=by
 have:∀k,k<=l.length->(List.range k).flatMap f=(l.take k).flatMap h:=by
  intro k;induction k with
  | zero=>intro _;rfl
  | succ k ih =>
   intro hk;rw[List.range_succ,List.flatMap_append,ih (by omega),List.take_succ_eq_append_getElem hk,List.flatMap_append]
   congr 1
   simp only[List.flatMap_cons,List.flatMap_nil,List.append_nil];exact e k hk
 have h0:=this l.length (Nat.le_refl _);rw[List.take_length] at h0;exact h0
theorem zZG (c:Cr):(frX (zJ c) (zMQ (zJ c))).length<=c.sz:=by
 have h:=zU8 c;unfold frX;rw[zNE,List.flatMap_append,List.flatMap_append,List.flatMap_map,List.flatMap_map,List.flatMap_map];have h1:(List.range (zJ c).ks.length).flatMap (fun j=>fvP (zJ c) (.kid j))=c.kids.flatMap Cr.fv:=zAT c.kids _ _ fun j hj=>by
  unfold fvP;rw[show zX (zJ c) (.kid j)=some c.kids[j] from List.getElem?_eq_getElem hj]
 have h2:(List.range (zJ c).bs.length).flatMap (fun j=>fvP (zJ c) (.bind j))=c.binds.flatMap fun b=>b.2.2.fv:=zAT c.binds _ (fun b=>b.2.2.fv) fun j hj=>by
  unfold fvP;rw[show zX (zJ c) (.bind j)=some c.binds[j].2.2 by show (c.binds[j]?).map _=_;rw[List.getElem?_eq_getElem hj];rfl]
 have h3:(List.range (zJ c).ls.length).flatMap (fun j=>fvP (zJ c) (.alt j))=c.alts.flatMap fun b=>b.2.2.fv:=zAT c.alts _ (fun b=>b.2.2.fv) fun j hj=>by
  unfold fvP;rw[show zX (zJ c) (.alt j)=some c.alts[j].2.2 by show (c.alts[j]?).map _=_;rw[List.getElem?_eq_getElem hj];rfl]
 rw[h1,h2,h3];simp only[List.length_append];exact h
theorem zTP {c:Cr} {G:List Pn×List Pp} (hG:G∈zS (zJ c)):(frX (zJ c) G.2).length<=c.sz:=by
 refine Nat.le_trans ?_ (zZG c);obtain⟨l1,l2,e⟩:=List.append_of_mem hG;unfold zMQ frX;rw[e,List.flatMap_append,List.flatMap_cons,List.flatMap_append,List.flatMap_append];simp only[List.length_append];omega
theorem zIP {x x':Nd} {ps:List Pp} (h:∀p∈ps,zX x p=zX x' p):frX x ps=frX x' ps:=by
 unfold frX;induction ps with
 | nil=>rfl
 | cons p ps ih =>
  rw[List.flatMap_cons,List.flatMap_cons,ih fun q hq=>h q (List.mem_cons_of_mem _ hq)];unfold fvP;rw[h p List.mem_cons_self]
theorem zK6 {c:Cr} (hc:Sm c) {G:List Pn×List Pp} (hG:G∈zS (zJ c)):G.1.length<=591:=by
 have hl:=zAG c hc.ok;have hs:=hc.sz;have hw:=hc.wt;rcases List.mem_cons.1 hG with rfl|hG
 ·have h1:(zH1 (zJ c)).length<=1+c.binds.length:=by
   unfold zH1;rw[List.length_append,List.length_map,List.length_range];show _+c.binds.length<=_;split<;>simp
  show (zH1 (zJ c)).length<=_;omega
 ·obtain⟨j,hj,rfl⟩:=List.mem_map.1 hG;simp only[List.length_map,List.length_range];unfold nvs;cases ha:(zJ c).ls[j]? with
  | none=>simp
  | some a=>have:=(zGN (K:=0) (List.mem_of_getElem? (show c.alts[j]? = some a from ha))).1;simp only;omega
theorem z3X (N:Nat) {ad:Ad} {c:Cr} (hc:Sm c) (hcN:c.sz<=N+1) (hok:AdOk ad (zJ c)) (y:ByteArray) (b:Cr) (hb:Sm b)
  (ih:∀(d:Cr) (y:ByteArray) (b:Cr),Sm d->d.sz<=N->Sm b->zF Tryz.prog y8 [eC d,str y,eC b] (eC (sbF N d y b))) (X:Nd) (hX:X=putAll (fun n z d=>sbF N d n (vr z)) (fun d=>sbF N d y b) b.fv y (zS (zJ c)) (zJ c))
  (post:AV->Nat->List (Nat×HO)->Prop) (hpost:AdOk ad X->post (.agg (yN ad X)) 0 (HP ad X)) :
  Wsem Tryz.prog (sn4 (bodyC Tryz.f16)) (mkC {vs:=[(1,.v (str y)),(5,.box 0 (eC b)),(6,.box 0 eZ),(7,.v (pt ad.b0 0))],hp:=HP ad (zJ c)})
   (fun c2=>yP tt Tryz.f16.results.toList post (den c2)) (fun _ _=>False) (fun c2=>yP tt Tryz.f16.results.toList post (den c2)):=by
 have hl:=zAG c hc.ok;have hcs:=hc.sz;have hbs:=hb.sz;have hbf:=zEV b;have hva:∀a∈c.alts,a.2.1.length<=1000000:=fun a ha=>by have:=(zGN (K:=0) ha).1;have:=hc.wt;omega
 obtain⟨x,hx⟩:∃x,x=zJ c:=⟨_,rfl⟩
 have hgl:(zS (zJ c)).length=c.alts.length+1:=zKE;have hq:zYC (fun d=>Sm d/\d.sz<=N) y b (fun n z d=>sbF N d n (vr z)) (fun d=>sbF N d y b):=by
  refine⟨fun d hd=>?_,?_,fun d n z hd=>⟨ih d n (vr z) hd.1 hd.2 (zSI z),(hd.1.sb N n z).1,by rw[(hd.1.sb N n z).2];exact hd.2⟩,fun d hd=>ih d y b hd.1 hd.2 hb⟩
  ·exact zC8 hd.1.n hd.1.ok hd.1.gd.few (by have:=hd.1.sz;omega)
  ·exact zC8 hb.n hb.ok hb.gd.few (by omega)
 refine Wsem.seq ttok mixed ?_;refine .inr (.inr (.inl ⟨List.range (HP ad (zJ c)).length,HP ad (zJ c),.sl (mG ad (zJ c)),xX _,List.nodup_range,zE2 hok (by show c.kids.length<=_;omega) (by show c.binds.length<=_;omega) (by show c.alts.length<=_;omega) hva,?_⟩));refine⟨{k:Nat // k<=(zS (zJ c)).length},fun k=>{vs:=[(1,.v (str y)),(5,.box 0 (eC b)),(6,.box 0 eZ),(7,.v (pt ad.b0 0)),(35,.v (.sl ((zS (zJ c)).map (eGp ad)))),(36,sv ((zS (zJ c)).length:Nat)),(37,sv (k.1:Nat))],hp:=HP ad (putAll (fun n z d=>sbF N d n (vr z)) (fun d=>sbF N d y b) b.fv y ((zS (zJ c)).take k.1) (zJ c))},
  fun k=>(zS (zJ c)).length-k.1,⟨0,Nat.zero_le _⟩,⟨⟨rfl,rfl,rfl,rfl,?_,?_,rfl,trivial⟩,trivial,rfl⟩,?_⟩
 ·show SV.v (.sl (mG ad (zJ c)))=_;rw[zLF hok]
 ·show sv _=sv _;rw[zLF hok];simp
 rintro⟨k,hkk⟩;refine⟨fun h=>?_,fun h=>?_⟩
 ·have h:k<(zS (zJ c)).length:=by have h:=of_decide_eq_true h;simp only at h;omega
  have hg:=List.getElem?_eq_getElem h;have hgm:=List.getElem_mem h;have hsn:(zS (zJ c)).take (k+1)=(zS (zJ c)).take k++[(zS (zJ c))[k]]:=List.take_succ_eq_append_getElem h;generalize (zS (zJ c))[k]=G at hg hgm hsn;obtain⟨g1,g2⟩:=zEZ hgm;have g3:=zMM hgm;have g4:=zK6 hc hgm;have g5:=zTP hgm;obtain⟨xk,hxk⟩:∃xk,xk=putAll (fun n z d=>sbF N d n (vr z)) (fun d=>sbF N d y b) b.fv y ((zS (zJ c)).take k) (zJ c):=⟨_,rfl⟩
  have hokk:AdOk ad xk:=by rw[hxk];exact hok.putAll
  have hPk:∀p∈G.2,zX xk p=zX (zJ c) p:=fun p hp=>by rw[hxk];exact wZ (zI9 hg hp)
  have hNk:∀q∈G.1,yI xk q=yI (zJ c) q:=fun q hq=>by rw[hxk];exact qC (zM9 hg hq)
  have hput:=z2U (g:=G) g2 g1 (by omega) (by have:G.2.length<=c.kids.length+c.binds.length+1:=g3;omega) hq hokk (fun p hp=>by
   obtain⟨d,hd⟩:=zH4 G hgm p hp;have hs:=hc.part hd;exact⟨d,by rw[hPk p hp];exact hd,hs.1,by omega⟩) (fun q hq=>by rw[hNk q hq];exact zB4 G hgm q hq) (by rw[zIP hPk];omega)
  refine⟨_,by omega,by show ((zS (zJ c)).map (eGp ad))[(k:Int).toNat]? = _;rw[show (k:Int).toNat=k from rfl,List.getElem?_map,hg];rfl,rfl,?_⟩;rw[<-hxk];refine .inr (.inr (.inr (.inr (.inr (.inl ⟨List.range (HP ad xk).length,_,[],_,xX _,List.nodup_range,rfl,hput,?_⟩)))));rintro r o h1 ⟨rfl,rfl⟩;refine⟨⟨k+1,h⟩,by simp;omega,⟨rfl,rfl,rfl,rfl,rfl,rfl,svc (wrap_succ (k:=k) (by omega)),trivial⟩,trivial,?_⟩;show zT (List.range (HP ad xk).length) (HP ad xk)++HP ad (putX _ _ b.fv y G xk)=HP ad (putAll _ _ b.fv y ((zS (zJ c)).take (k+1)) (zJ c));rw[qF,List.nil_append,hsn,hxk];unfold putAll;rw[List.foldl_append]
  rfl
 ·have h:k=(zS (zJ c)).length:=by have h:=of_decide_eq_false h;simp only at h;omega
  subst h;have hall:putAll (fun n z d=>sbF N d n (vr z)) (fun d=>sbF N d y b) b.fv y ((zS (zJ c)).take (zS (zJ c)).length) (zJ c)=X:=by rw[List.take_length,hX]
  have hokX:AdOk ad X:=by rw[hX];exact hok.putAll
  refine Wsem.cut {vs:=[(6,.box 0 eZ),(7,.v (pt ad.b0 0))],hp:=HP ad X} ⟨⟨rfl,rfl,trivial⟩,trivial,by rw[<-hall];rfl⟩ ?_;refine Wsem.seq ttok mixed ?_;refine⟨(hM ad X).length,yN ad X,(zJY hokX).1,by show 0+10<=10;decide,?_⟩;refine Wsem.of ttok mixed ?_;exact hpost hokX
set_option linter.unusedSimpArgs false
theorem zQ0 {far:List ByteArray} {n:ByteArray}:∀{ns tk:List ByteArray},n∉ns->nw (rens far ns tk) n=n
 | [],_,_=>rfl
 | m::ns,tk,h=>by
  simp only[List.mem_cons,not_or] at h;unfold rens;split
  ·show (if m=n then _ else _)=_;rw[if_neg (Ne.symm h.1),zQ0 h.2]
  ·exact zQ0 h.2
section
variable {ren:ByteArray->ByteArray->Cr->Cr} {fin:Cr->Cr} {far:List ByteArray} {ps:List Pp}
abbrev zW0 (ren:ByteArray->ByteArray->Cr->Cr) (rs:List (ByteArray×ByteArray)) (d:Cr):Cr:=rs.foldl (fun d q=>ren q.1 q.2 d) d
theorem zHK (hps:ps.Nodup) {p:Pp} (hp:p∈ps):∀{qs:List Pn} {tk:List ByteArray} {x:Nd} {d:Cr},qs.Nodup->(∀q∈qs,∃n,yI x q=some n)->zX x p=some d->zX (renL ren far ps qs tk x) p=some (zW0 ren (rens far (nsX x qs) tk) d)
 | [],_,_,_,_,_,hd=>hd
 | q::qs,tk,x,d,hn,hN,hd=>by
  rw[List.nodup_cons] at hn;obtain⟨n,hq⟩:=hN q List.mem_cons_self;have e1:nsX x (q::qs)=n::nsX x qs:=by
   have e0:nmN x q=n:=by unfold nmN;rw[hq]
   show nmN x q::nsX x qs=_;rw[e0]
  rw[e1];unfold renL rens;rw[hq];simp only;split
  ·have hn2:yI (updP (ren n (lett (ff tk))) ps x) q=some n:=by rw[xA];exact hq
   have hsame:∀q'∈qs,yI (zE4 (updP (ren n (lett (ff tk))) ps x) q (lett (ff tk))) q'=yI x q':=fun q' hq'=>by
    rw[zC0 hn2,if_neg (fun e:q=q'=>hn.1 (e ▸ hq')),xA]
   have e2:nsX (zE4 (updP (ren n (lett (ff tk))) ps x) q (lett (ff tk))) qs=nsX x qs:=List.map_congr_left fun q' hq'=>by unfold nmN;rw[hsame q' hq']
   have hd2:zX (zE4 (updP (ren n (lett (ff tk))) ps x) q (lett (ff tk))) p=some (ren n (lett (ff tk)) d):=by rw[zGJ];exact zIC hps hp hd
   rw[zHK hps hp hn.2 (fun q' hq'=>by rw[hsame q' hq'];exact hN q' (List.mem_cons_of_mem _ hq')) hd2,e2]
   rfl
  ·exact zHK hps hp hn.2 (fun q' hq'=>hN q' (List.mem_cons_of_mem _ hq')) hd
theorem zGE {q:Pn} {m:ByteArray}:∀{qs:List Pn} {tk:List ByteArray} {x:Nd},q∈qs->yI x q=some m->qs.Nodup->(nsX x qs).Nodup->(∀q∈qs,∃n,yI x q=some n)->yI (renL ren far ps qs tk x) q=some (nw (rens far (nsX x qs) tk) m)
 | q'::qs,tk,x,hq,hm,hn,hnd,hN=>by
  rw[List.nodup_cons] at hn;obtain⟨n,hq'⟩:=hN q' List.mem_cons_self;have e1:nsX x (q'::qs)=n::nsX x qs:=by
   have e0:nmN x q'=n:=by unfold nmN;rw[hq']
   show nmN x q'::nsX x qs=_;rw[e0]
  rw[e1] at hnd⊢;rw[List.nodup_cons] at hnd;have hmem:∀q''∈qs,∀m',yI x q''=some m'->m'∈nsX x qs:=fun q'' h m' hm'=>List.mem_map.2 ⟨q'',h,by unfold nmN;rw[hm']⟩;unfold renL rens;rw[hq'];simp only;split
  ·have hn2:yI (updP (ren n (lett (ff tk))) ps x) q'=some n:=by rw[xA];exact hq'
   have hsame:∀q''∈qs,yI (zE4 (updP (ren n (lett (ff tk))) ps x) q' (lett (ff tk))) q''=yI x q'':=fun q'' hq''=>by
    rw[zC0 hn2,if_neg (fun e:q'=q''=>hn.1 (e ▸ hq'')),xA]
   have e2:nsX (zE4 (updP (ren n (lett (ff tk))) ps x) q' (lett (ff tk))) qs=nsX x qs:=List.map_congr_left fun q'' hq''=>by unfold nmN;rw[hsame q'' hq'']
   rcases List.mem_cons.1 hq with rfl|hq
   ·rw[zAL hn.1,zC0 hn2,if_pos rfl];rw[hq'] at hm;injection hm with hm;subst hm
    show _=some (if n=n then _ else _);rw[if_pos rfl]
   ·have hne:¬n=m:=fun e=>hnd.1 (e ▸ hmem q hq m hm);rw[zGE hq (by rw[hsame q hq];exact hm) hn.2 (by rw[e2];exact hnd.2) (fun q'' hq''=>by rw[hsame q'' hq''];exact hN q'' (List.mem_cons_of_mem _ hq'')),e2];show _=some (if n=m then _ else _);rw[if_neg hne]
  ·rcases List.mem_cons.1 hq with rfl|hq
   ·rw[zAL hn.1,hq'];rw[hq'] at hm;injection hm with hm;subst hm
    rw[zQ0 hnd.1]
   ·exact zGE hq hm hn.2 hnd.2 (fun q'' hq''=>hN q'' (List.mem_cons_of_mem _ hq''))
noncomputable def zJN (ren:ByteArray->ByteArray->Cr->Cr) (fin:Cr->Cr) (o:Option (List (ByteArray×ByteArray))) (d:Cr):Cr:=match o with|none=>d|some rs=>fin (zW0 ren rs d)
noncomputable def zG7 (o:Option (List (ByteArray×ByteArray))) (n:ByteArray):ByteArray:=match o with|none=>n|some rs=>nw rs n
theorem zU4 {y:ByteArray} {g:List Pn×List Pp} {x:Nd} {p:Pp} {d:Cr} (h1:g.1.Nodup) (h2:g.2.Nodup) (hp:p∈g.2) (hN:∀q∈g.1,∃n,yI x q=some n) (hd:zX x p=some d) :
  zX (putX ren fin far y g x) p=some (zJN ren fin (plan (frX x g.2) (nsX x g.1) y far) d):=by
 unfold putX plan;split
 ·have:=zHK (ren:=ren) (far:=far) h2 hp (tk:=frX x g.2++nsX x g.1++far) h1 hN hd;rw[zIC h2 hp this];rfl
 ·exact hd
theorem zTV {y:ByteArray} {g:List Pn×List Pp} {x:Nd} {q:Pn} {n:ByteArray} (h1:g.1.Nodup) (hq:q∈g.1) (hN:∀q∈g.1,∃n,yI x q=some n) (hnd:(nsX x g.1).Nodup) (hn:yI x q=some n) :
  yI (putX ren fin far y g x) q=some (zG7 (plan (frX x g.2) (nsX x g.1) y far) n):=by
 unfold putX plan;split
 ·rw[xA,zGE hq hn h1 hnd hN];rfl
 ·exact hn
theorem zDF {y:ByteArray} {x:Nd} {k:Nat} {G:List Pn×List Pp} {p:Pp} {d:Cr} (hG:(zS x)[k]? = some G) (hp:p∈G.2) (hd:zX x p=some d) :
  zX (putAll ren fin far y (zS x) x) p=some (zJN ren fin (plan (frX x G.2) (nsX x G.1) y far) d):=by
 obtain⟨hk1,hk2⟩:=List.getElem?_eq_some_iff.1 hG;have hGm:G∈zS x:=List.mem_of_getElem? hG;obtain⟨n1,n2⟩:=zEZ hGm;have e1:zS x=(zS x).take k++G::(zS x).drop (k+1):=by
  rw[<-hk2,<-List.drop_eq_getElem_cons hk1,List.take_append_drop]
 obtain⟨xk,hxk⟩:∃xk,xk=putAll ren fin far y ((zS x).take k) x:=⟨_,rfl⟩
 have hPk:∀p∈G.2,zX xk p=zX x p:=fun p hp=>by rw[hxk];exact wZ (zI9 hG hp)
 have hNk:∀q∈G.1,yI xk q=yI x q:=fun q hq=>by rw[hxk];exact qC (zM9 hG hq)
 have e2:putAll ren fin far y (zS x) x=putAll ren fin far y ((zS x).drop (k+1)) (putX ren fin far y G xk):=by
  conv=>lhs;rw[e1]
  unfold putAll;rw[List.foldl_append,List.foldl_cons,hxk];rfl
 have hnot:p∉((zS x).drop (k+1)).flatMap (·.2):=by
  have h2:=zET x;unfold zMQ at h2;rw[e1,List.flatMap_append,List.flatMap_cons] at h2;exact fun hm=>(List.nodup_append.1 (List.nodup_append.1 h2).2.1).2.2 p hp p hm rfl
 rw[e2,wZ hnot,zU4 n1 n2 hp (fun q hq=>by rw[hNk q hq];exact zB4 G hGm q hq) (by rw[hPk p hp];exact hd),zIP hPk];have e3:nsX xk G.1=nsX x G.1:=List.map_congr_left fun q hq=>by unfold nmN;rw[hNk q hq]
 rw[e3]
theorem zC4 {y:ByteArray} {x:Nd} {k:Nat} {G:List Pn×List Pp} {q:Pn} {n:ByteArray} (hG:(zS x)[k]? = some G) (hq:q∈G.1) (hnd:(nsX x G.1).Nodup) (hn:yI x q=some n) :
  yI (putAll ren fin far y (zS x) x) q=some (zG7 (plan (frX x G.2) (nsX x G.1) y far) n):=by
 obtain⟨hk1,hk2⟩:=List.getElem?_eq_some_iff.1 hG;have hGm:G∈zS x:=List.mem_of_getElem? hG;obtain⟨n1,n2⟩:=zEZ hGm;have e1:zS x=(zS x).take k++G::(zS x).drop (k+1):=by
  rw[<-hk2,<-List.drop_eq_getElem_cons hk1,List.take_append_drop]
 obtain⟨xk,hxk⟩:∃xk,xk=putAll ren fin far y ((zS x).take k) x:=⟨_,rfl⟩
 have hPk:∀p∈G.2,zX xk p=zX x p:=fun p hp=>by rw[hxk];exact wZ (zI9 hG hp)
 have hNk:∀q∈G.1,yI xk q=yI x q:=fun q hq=>by rw[hxk];exact qC (zM9 hG hq)
 have e2:putAll ren fin far y (zS x) x=putAll ren fin far y ((zS x).drop (k+1)) (putX ren fin far y G xk):=by
  conv=>lhs;rw[e1]
  unfold putAll;rw[List.foldl_append,List.foldl_cons,hxk];rfl
 have hnot:q∉((zS x).drop (k+1)).flatMap (·.1):=by
  have h2:=zFB x;unfold zVN at h2;rw[e1,List.flatMap_append,List.flatMap_cons] at h2;exact fun hm=>(List.nodup_append.1 (List.nodup_append.1 h2).2.1).2.2 q hq q hm rfl
 have e3:nsX xk G.1=nsX x G.1:=List.map_congr_left fun q hq=>by unfold nmN;rw[hNk q hq]
 rw[e2,qC hnot,zTV n1 hq (fun q hq=>by rw[hNk q hq];exact zB4 G hGm q hq) (by rw[e3];exact hnd) (by rw[hNk q hq];exact hn),zIP hPk,e3]
end
structure Shp (x x':Nd):Prop where
 f:x.f=x'.f
 n:x.n=x'.n
 t:x.t=x'.t
 s:¬x.f=5->x.s=x'.s
 ks:x.ks.length=x'.ks.length
 bs:x.bs.map (·.2.1)=x'.bs.map (·.2.1)
 ls:x.ls.map (fun a=>(a.1,a.2.1.length))=x'.ls.map fun a=>(a.1,a.2.1.length)
theorem Shp.refl (x:Nd):Shp x x:=⟨rfl,rfl,rfl,fun _=>rfl,rfl,rfl,rfl⟩
theorem Shp.trans {a b c:Nd} (h:Shp a b) (k:Shp b c):Shp a c:=⟨h.f.trans k.f,h.n.trans k.n,h.t.trans k.t,fun h5=>(h.s h5).trans (k.s (h.f ▸ h5)),h.ks.trans k.ks,h.bs.trans k.bs,h.ls.trans k.ls⟩
theorem zB1 {α β:Type} (f:α->β) (l:List α) (j:Nat) (g:α->α) (h:∀a,f (g a)=f a):(l.modify j g).map f=l.map f:=by
 apply List.ext_getElem?;intro i;rw[List.getElem?_map,List.getElem?_modify,List.getElem?_map];cases l[i]? with
 | none=>rfl
 | some a=>by_cases hj:j=i<;>simp[hj,h]
theorem zY6 {x:Nd} {p:Pp} {c:Cr}:Shp (zBC x p c) x:=by
 cases p with
 | kid j=>exact⟨rfl,rfl,rfl,fun _=>rfl,by simp[zBC],rfl,rfl⟩
 | bind j=>exact⟨rfl,rfl,rfl,fun _=>rfl,rfl,zB1 _ _ _ _ fun a=>rfl,rfl⟩
 | alt j=>exact⟨rfl,rfl,rfl,fun _=>rfl,rfl,rfl,zB1 _ _ _ _ fun a=>rfl⟩
theorem zXT {x:Nd} {q:Pn} {s n:ByteArray} (h:yI x q=some n):Shp (zE4 x q s) x:=by
 cases q with
 | own =>
  refine⟨rfl,rfl,rfl,fun h5=>?_,rfl,rfl,rfl⟩;have h:(if x.f=5 then some x.s else none)=some n:=h;rw[if_neg (show ¬x.f=5 from h5)] at h;cases h
 | bind j=>exact⟨rfl,rfl,rfl,fun _=>rfl,rfl,zB1 _ _ _ _ fun a=>rfl,rfl⟩
 | var j i=>exact⟨rfl,rfl,rfl,fun _=>rfl,rfl,rfl,zB1 _ _ _ _ fun a=>by simp⟩
theorem shp_updP {φ:Cr->Cr}:∀{ps:List Pp} {x:Nd},Shp (updP φ ps x) x
 | [],x => .refl x
 | p::ps,x=>by
  refine (shp_updP (ps:=ps)).trans ?_;cases zX x p with
  | none=>exact .refl x
  | some d=>exact zY6
section
variable {ren:ByteArray->ByteArray->Cr->Cr} {fin:Cr->Cr} {far:List ByteArray} {y:ByteArray}
theorem shp_renL {ps:List Pp}:∀{qs:List Pn} {tk:List ByteArray} {x:Nd},Shp (renL ren far ps qs tk x) x
 | [],_,x => .refl x
 | q::qs,tk,x=>by
  unfold renL;split
  ·rename_i n hn;split
   ·refine shp_renL.trans (.trans (zXT (n:=n) (by rw[xA];exact hn)) shp_updP)
   ·exact shp_renL
  ·exact shp_renL
theorem zYV {g:List Pn×List Pp} {x:Nd}:Shp (putX ren fin far y g x) x:=by
 unfold putX;split
 ·exact shp_updP.trans shp_renL
 ·exact .refl x
theorem shp_putAll:∀{gs:List (List Pn×List Pp)} {x:Nd},Shp (putAll ren fin far y gs x) x
 | [],x => .refl x
 | g::gs,x=>(shp_putAll (gs:=gs)).trans zYV
end
theorem z2X {x x':Nd} (hs:Shp x x') (hP:∀p,zX x p=zX x' p) (hN:∀q,yI x q=yI x' q):x=x':=by
 obtain⟨f,n,s,t,ks,bs,ls⟩:=x;obtain⟨f',n',s',t',ks',bs',ls'⟩:=x';obtain⟨h1,h2,h3,h4,h5,h6,h7⟩:=hs;simp only at h1 h2 h3 h4 h5 h6 h7;subst h1;subst h2;subst h3;have e1:s=s':=by
  by_cases hf:f=5
  ·have:(if f=5 then some s else none)=(if f=5 then some s' else none):=hN .own;rw[if_pos hf,if_pos hf] at this;injection this
  ·exact h4 hf
 have e2:ks=ks':=List.ext_getElem? fun j=>hP (.kid j);have e3:bs=bs':=List.ext_getElem? fun j=>by
  have a1:(bs[j]?).map (·.2.2)=(bs'[j]?).map (·.2.2):=hP (.bind j);have a2:(bs[j]?).map (·.1)=(bs'[j]?).map (·.1):=hN (.bind j);have a3:(bs[j]?).map (·.2.1)=(bs'[j]?).map (·.2.1):=by rw[<-List.getElem?_map,<-List.getElem?_map,h6]
  cases hb:bs[j]? with
  | none=>rw[hb] at a1;cases hb':bs'[j]? with|none=>rfl|some _=>rw[hb'] at a1;cases a1
  | some b =>
   rw[hb] at a1 a2 a3;cases hb':bs'[j]? with
   | none=>rw[hb'] at a1;cases a1
   | some b' =>
    rw[hb'] at a1 a2 a3;simp at a1 a2 a3;obtain⟨b1,b2,b3⟩:=b;obtain⟨c1,c2,c3⟩:=b';simp only at a1 a2 a3;rw[a1,a2,a3]
 have e4:ls=ls':=List.ext_getElem? fun j=>by
  have a1:(ls[j]?).map (·.2.2)=(ls'[j]?).map (·.2.2):=hP (.alt j);have a2:∀i,(ls[j]?).bind (·.2.1[i]?)=(ls'[j]?).bind (·.2.1[i]?):=fun i=>hN (.var j i);have a3:(ls[j]?).map (fun a=>(a.1,a.2.1.length))=(ls'[j]?).map fun a=>(a.1,a.2.1.length):=by rw[<-List.getElem?_map,<-List.getElem?_map,h7]
  cases hb:ls[j]? with
  | none=>rw[hb] at a1;cases hb':ls'[j]? with|none=>rfl|some _=>rw[hb'] at a1;cases a1
  | some b =>
   rw[hb] at a1 a2 a3;cases hb':ls'[j]? with
   | none=>rw[hb'] at a1;cases a1
   | some b' =>
    rw[hb'] at a1 a2 a3;simp at a1 a3;have a2':∀i:Nat,b.2.1[i]? = b'.2.1[i]?:=a2;have e:b.2.1=b'.2.1:=List.ext_getElem? a2';obtain⟨b1,b2,b3⟩:=b;obtain⟨c1,c2,c3⟩:=b';simp only at a1 a3 e;rw[a1,a3.1,e]
 rw[e1,e2,e3,e4]
theorem zSZ (x:Nd):(zS x)[0]? = some (zH1 x,zT2 x):=rfl
theorem z1O {x:Nd} {j:Nat} (h:j<x.ls.length):(zS x)[j+1]? = some ((List.range (nvs x j)).map (.var j),[.alt j]):=by
 show ((List.range x.ls.length).map _)[j]? = _;rw[List.getElem?_map,List.getElem?_range h];rfl
theorem zD8 (c:Cr) (hn:c.isN=true):nsX (zJ c) (zH1 (zJ c))=c.names0:=by
 unfold nsX zH1 Cr.names0;rw[List.map_append]
 congr 1
 ·cases c with
  | node f n s t g =>
   show List.map _ (if f=5 then [Pn.own] else [])=(if f=5 then [s] else []);by_cases h5:f=5
   ·rw[if_pos h5,if_pos h5];have:yI (zJ (.node f n s t g)) .own=some s:=if_pos h5;simp[nmN,this]
   ·rw[if_neg h5,if_neg h5];rfl
  | _=>cases hn
 ·rw[List.map_map];apply List.ext_getElem
  ·simp[zJ]
  intro j h1 h2;have hj:j<c.binds.length:=by simpa using h2
  simp only[List.getElem_map,List.getElem_range,Function.comp];have:yI (zJ c) (.bind j)=some c.binds[j].1:=by show (c.binds[j]?).map _=_;rw[List.getElem?_eq_getElem hj];rfl
  unfold nmN;rw[this]
theorem zIG (c:Cr):frX (zJ c) (zT2 (zJ c))=c.parts0.flatMap Cr.fv:=by
 unfold frX zT2 Cr.parts0;rw[List.flatMap_append,List.flatMap_append,List.flatMap_map,List.flatMap_map,List.flatMap_map]
 congr 1
 ·exact zAT c.kids _ _ fun j hj=>by
   unfold fvP;rw[show zX (zJ c) (.kid j)=some c.kids[j] from List.getElem?_eq_getElem hj]
 ·exact zAT c.binds _ (fun b=>b.2.2.fv) fun j hj=>by
   unfold fvP;rw[show zX (zJ c) (.bind j)=some c.binds[j].2.2 by show (c.binds[j]?).map _=_;rw[List.getElem?_eq_getElem hj];rfl]
theorem zNV {c:Cr} {j:Nat} {a:Alg} (h:c.alts[j]? = some a):nsX (zJ c) ((List.range (nvs (zJ c) j)).map (.var j))=a.2.1:=by
 have hv:nvs (zJ c) j=a.2.1.length:=by unfold nvs;rw[show (zJ c).ls[j]? = some a from h]
 rw[hv];unfold nsX;rw[List.map_map];apply List.ext_getElem
 ·simp
 intro i h1 h2;simp only[List.getElem_map,List.getElem_range,Function.comp];have:yI (zJ c) (.var j i)=some a.2.1[i]:=by show (c.alts[j]?).bind _=_;rw[h];exact List.getElem?_eq_getElem h2
 unfold nmN;rw[this]
theorem zRZ {c:Cr} {j:Nat} {a:Alg} (h:c.alts[j]? = some a):frX (zJ c) [.alt j]=a.2.2.fv:=by
 have:zX (zJ c) (.alt j)=some a.2.2:=by show (c.alts[j]?).map _=_;rw[h];rfl
 simp[frX,fvP,this]
section
variable {N:Nat} {y:ByteArray} {b:Cr}
noncomputable abbrev zHI (N:Nat) (y:ByteArray) (b c:Cr):Nd:=putAll (fun n z d=>sbF N d n (vr z)) (fun d=>sbF N d y b) b.fv y (zS (zJ c)) (zJ c)
theorem zHR {c:Cr} (hn:c.isN=true) (ho:c.Ok):c.names0.Nodup:=by
 cases c with
 | node f n s t g =>
  obtain⟨h1,h2,h3,h4,h5,h6,h7,h8⟩:=ho;show ((if f=5 then [s] else [])++g.binds.map (·.1)).Nodup;by_cases hf:f=5
  ·rw[if_pos hf];have hb:g.binds=[]:=by
    cases hb:g.binds with
    | nil=>rfl
    | cons a l=>have:=h5 (by rw[hb];exact List.cons_ne_nil _ _);rw[hf] at this;exact absurd this (by decide)
   rw[hb];simp
  ·rw[if_neg hf];exact h7
 | _=>cases hn
theorem zZV {c:Cr} (hn:c.isN=true) {j:Nat} {d:Cr} (h:c.kids[j]? = some d):zX (zHI N y b c) (.kid j)=some (zJN (fun n z d=>sbF N d n (vr z)) (fun d=>sbF N d y b) (plan (c.parts0.flatMap Cr.fv) c.names0 y b.fv) d):=by
 have:=zDF (ren:=fun n z d=>sbF N d n (vr z)) (fin:=fun d=>sbF N d y b) (far:=b.fv) (y:=y) (zSZ (zJ c)) (p := .kid j) (List.mem_append_left _ (List.mem_map.2 ⟨j,List.mem_range.2 (List.getElem?_eq_some_iff.1 h).1,rfl⟩)) (show zX (zJ c) (.kid j)=some d from h);simp only[] at this;rw[zIG,zD8 c hn] at this;exact this
theorem zXS {c:Cr} (hn:c.isN=true) {j:Nat} {d:Bdg} (h:c.binds[j]? = some d):zX (zHI N y b c) (.bind j)=some (zJN (fun n z d=>sbF N d n (vr z)) (fun d=>sbF N d y b) (plan (c.parts0.flatMap Cr.fv) c.names0 y b.fv) d.2.2):=by
 have:=zDF (ren:=fun n z d=>sbF N d n (vr z)) (fin:=fun d=>sbF N d y b) (far:=b.fv) (y:=y) (zSZ (zJ c)) (p := .bind j) (List.mem_append_right _ (List.mem_map.2 ⟨j,List.mem_range.2 (List.getElem?_eq_some_iff.1 h).1,rfl⟩)) (show zX (zJ c) (.bind j)=some d.2.2 by show (c.binds[j]?).map _=_;rw[h];rfl);simp only[] at this;rw[zIG,zD8 c hn] at this;exact this
theorem z0S {c:Cr} {j:Nat} {a:Alg} (h:c.alts[j]? = some a):zX (zHI N y b c) (.alt j)=some (zJN (fun n z d=>sbF N d n (vr z)) (fun d=>sbF N d y b) (plan a.2.2.fv a.2.1 y b.fv) a.2.2):=by
 have hj:=(List.getElem?_eq_some_iff.1 h).1;have:=zDF (ren:=fun n z d=>sbF N d n (vr z)) (fin:=fun d=>sbF N d y b) (far:=b.fv) (y:=y) (z1O (x:=zJ c) hj) (p := .alt j) (by simp) (show zX (zJ c) (.alt j)=some a.2.2 by show (c.alts[j]?).map _=_;rw[h];rfl);simp only[] at this;rw[zRZ h,zNV h] at this;exact this
theorem zZW {f n:Int} {s:ByteArray} {t:Tp} {g:Cr} (ho:(Cr.node f n s t g).Ok) (h5:f=5):yI (zHI N y b (.node f n s t g)) .own=some (zG7 (plan ((Cr.node f n s t g).parts0.flatMap Cr.fv) (Cr.node f n s t g).names0 y b.fv) s):=by
 have hnd:=zHR (c := .node f n s t g) rfl ho;have:=zC4 (ren:=fun n z d=>sbF N d n (vr z)) (fin:=fun d=>sbF N d y b) (far:=b.fv) (y:=y) (zSZ (zJ (.node f n s t g))) (q := .own) (List.mem_append_left _ (by rw[if_pos (show (zJ (Cr.node f n s t g)).f=5 from h5)];simp)) (by simp only[];rw[zD8 _ rfl];exact hnd) (show yI (zJ (.node f n s t g)) .own=some s from if_pos h5);simp only[] at this;rw[zIG,zD8 _ rfl] at this;exact this
theorem zTW {c:Cr} (hn:c.isN=true) (ho:c.Ok) {j:Nat} {d:Bdg} (h:c.binds[j]? = some d):yI (zHI N y b c) (.bind j)=some (zG7 (plan (c.parts0.flatMap Cr.fv) c.names0 y b.fv) d.1):=by
 have:=zC4 (ren:=fun n z d=>sbF N d n (vr z)) (fin:=fun d=>sbF N d y b) (far:=b.fv) (y:=y) (zSZ (zJ c)) (q := .bind j) (List.mem_append_right _ (List.mem_map.2 ⟨j,List.mem_range.2 (List.getElem?_eq_some_iff.1 h).1,rfl⟩)) (by simp only[];rw[zD8 c hn];exact zHR hn ho) (show yI (zJ c) (.bind j)=some d.1 by show (c.binds[j]?).map _=_;rw[h];rfl);simp only[] at this;rw[zIG,zD8 c hn] at this;exact this
theorem zZS {c:Cr} (ho:c.Ok) {j i:Nat} {a:Alg} {m:ByteArray} (h:c.alts[j]? = some a) (hi:a.2.1[i]? = some m):yI (zHI N y b c) (.var j i)=some (zG7 (plan a.2.2.fv a.2.1 y b.fv) m):=by
 have hj:=(List.getElem?_eq_some_iff.1 h).1;have hv:nvs (zJ c) j=a.2.1.length:=by unfold nvs;rw[show (zJ c).ls[j]? = some a from h]
 have:=zC4 (ren:=fun n z d=>sbF N d n (vr z)) (fin:=fun d=>sbF N d y b) (far:=b.fv) (y:=y) (z1O (x:=zJ c) hj) (q := .var j i) (by simp only[];rw[hv];exact List.mem_map.2 ⟨i,List.mem_range.2 (List.getElem?_eq_some_iff.1 hi).1,rfl⟩) (by simp only[];rw[zNV h];exact (ho.alt (List.mem_of_getElem? h)).2.2) (show yI (zJ c) (.var j i)=some m by show (c.alts[j]?).bind _=_;rw[h];exact hi);simp only[] at this;rw[zRZ h,zNV h] at this;exact this
end
section
variable {N:Nat} {y:ByteArray} {b:Cr}
noncomputable abbrev rnF (N:Nat):ByteArray->ByteArray->Cr->Cr:=fun n z d=>sbF N d n (vr z)
noncomputable abbrev fnF (N:Nat) (y:ByteArray) (b:Cr):Cr->Cr:=fun d=>sbF N d y b
noncomputable abbrev ΦF (N:Nat) (y:ByteArray) (b:Cr):List (ByteArray×ByteArray)->Cr->Cr:=fun rs p=>sbF N (rs.foldl (fun p q=>sbF N p q.1 (vr q.2)) p) y b
theorem zNS (vs:List ByteArray) (p:Cr):zBO (ΦF N y b) y b.fv vs p=(vs.map (zG7 (plan p.fv vs y b.fv)),zJN (rnF N) (fnF N y b) (plan p.fv vs y b.fv) p):=by
 unfold zBO;cases plan p.fv vs y b.fv with
 | none =>
  show (vs,p)=(vs.map fun n=>n,p);rw[List.map_id']
 | some rs=>rfl
noncomputable def sbR (N:Nat) (y:ByteArray) (b:Cr) (f n:Int) (s:ByteArray) (t:Tp) (g:Cr):Cr :=
 .node f n (if f=5 then zG7 (plan (g.parts0.flatMap Cr.fv) (Cr.node f n s t g).names0 y b.fv) s else s) t (yQ (zJN (rnF N) (fnF N y b) (plan (g.parts0.flatMap Cr.fv) (Cr.node f n s t g).names0 y b.fv)) id (zG7 (plan (g.parts0.flatMap Cr.fv) (Cr.node f n s t g).names0 y b.fv)) (zBO (ΦF N y b) y b.fv) g)
theorem z2G {f n:Int} {s:ByteArray} {t:Tp} {g:Cr} (h1:¬f=1) (h7:¬f=7):sbF (N+1) (.node f n s t g) y b=sbR N y b f n s t g:=by
 rw[sbF,if_neg h1,if_neg h7];unfold sbR;cases hp:plan (g.parts0.flatMap Cr.fv) (Cr.node f n s t g).names0 y b.fv with
 | none =>
  simp only[];have e1:(if f=5 then zG7 none s else s)=s:=by split<;>rfl
  rw[e1]
  rfl
 | some rs=>rfl
theorem zKH {c:Cr} {p:Pp} (h:zX (zJ c) p=none):zX (zHI N y b c) p=none:=by
 rw[<-h];refine wZ fun hm=>?_;obtain⟨g,hg,hp⟩:=List.mem_flatMap.1 hm;obtain⟨d,hd⟩:=zH4 g hg p hp;rw[h] at hd;cases hd
theorem zDT {c:Cr} {q:Pn} (h:yI (zJ c) q=none):yI (zHI N y b c) q=none:=by
 rw[<-h];refine qC fun hm=>?_;obtain⟨g,hg,hp⟩:=List.mem_flatMap.1 hm;obtain⟨d,hd⟩:=zB4 g hg q hp;rw[h] at hd;cases hd
theorem zIA {f n:Int} {s:ByteArray} {t:Tp} {g:Cr} (ho:(Cr.node f n s t g).Ok):zHI N y b (.node f n s t g)=zJ (sbR N y b f n s t g):=by
 obtain⟨hg,hgo⟩:=xQ ho;obtain⟨o,hopl⟩:∃o,o=plan (g.parts0.flatMap Cr.fv) (Cr.node f n s t g).names0 y b.fv:=⟨_,rfl⟩
 have hks:(zJ (sbR N y b f n s t g)).ks=g.kids.map (zJN (rnF N) (fnF N y b) o):=by rw[hopl];exact zBM hg hgo
 have hbs:(zJ (sbR N y b f n s t g)).bs=g.binds.map fun d=>(zG7 o d.1,d.2.1,zJN (rnF N) (fnF N y b) o d.2.2):=by rw[hopl];exact jG hg hgo
 have hls:(zJ (sbR N y b f n s t g)).ls=g.alts.map fun a=>(a.1,zBO (ΦF N y b) y b.fv a.2.1 a.2.2):=zGH hg hgo;have hsh:Shp (zJ (.node f n s t g)) (zJ (sbR N y b f n s t g)):=by
  refine⟨rfl,rfl,rfl,fun h5=>?_,?_,?_,?_⟩
  ·exact (if_neg (show ¬f=5 from h5)).symm
  ·rw[hks,List.length_map];rfl
  ·rw[hbs,List.map_map];rfl
  ·rw[hls,List.map_map];refine List.map_congr_left fun a ha=>?_;simp only[Function.comp,zNS,List.length_map]
 refine z2X (shp_putAll.trans hsh) (fun p=>?_) (fun q=>?_)
 ·cases p with
  | kid j =>
   have e:zX (zJ (sbR N y b f n s t g)) (.kid j)=(g.kids[j]?).map (zJN (rnF N) (fnF N y b) o):=by
    show (zJ (sbR N y b f n s t g)).ks[j]? = _;rw[hks,List.getElem?_map]
   rw[e];cases hj:g.kids[j]? with
   | none=>exact zKH (c := .node f n s t g) (p := .kid j) hj
   | some d=>rw[zZV (c := .node f n s t g) rfl hj,hopl];rfl
  | bind j =>
   have e:zX (zJ (sbR N y b f n s t g)) (.bind j)=(g.binds[j]?).map (fun d=>zJN (rnF N) (fnF N y b) o d.2.2):=by
    show ((zJ (sbR N y b f n s t g)).bs[j]?).map _=_;rw[hbs,List.getElem?_map,Option.map_map];rfl
   rw[e];cases hj:g.binds[j]? with
   | none=>exact zKH (c := .node f n s t g) (p := .bind j) (by show (g.binds[j]?).map _=_;rw[hj];rfl)
   | some d=>rw[zXS (c := .node f n s t g) rfl hj,hopl];rfl
  | alt j =>
   have e:zX (zJ (sbR N y b f n s t g)) (.alt j)=(g.alts[j]?).map (fun a=>(zBO (ΦF N y b) y b.fv a.2.1 a.2.2).2):=by
    show ((zJ (sbR N y b f n s t g)).ls[j]?).map _=_;rw[hls,List.getElem?_map,Option.map_map];rfl
   rw[e];cases hj:g.alts[j]? with
   | none=>exact zKH (c := .node f n s t g) (p := .alt j) (by show (g.alts[j]?).map _=_;rw[hj];rfl)
   | some a=>rw[z0S (c := .node f n s t g) hj,Option.map_some,zNS]
 ·cases q with
  | own =>
   by_cases h5:f=5
   ·rw[zZW ho h5];have e:yI (zJ (sbR N y b f n s t g)) .own=some (zG7 o s):=by
     show (if f=5 then some (if f=5 then zG7 _ s else s) else none)=_;rw[if_pos h5,if_pos h5,hopl]
    rw[e,hopl];rfl
   ·rw[zDT (c := .node f n s t g) (q := .own) (if_neg h5)];exact (if_neg h5).symm
  | bind j =>
   have e:yI (zJ (sbR N y b f n s t g)) (.bind j)=(g.binds[j]?).map (fun d=>zG7 o d.1):=by
    show ((zJ (sbR N y b f n s t g)).bs[j]?).map _=_;rw[hbs,List.getElem?_map,Option.map_map];rfl
   rw[e];cases hj:g.binds[j]? with
   | none=>exact zDT (c := .node f n s t g) (q := .bind j) (by show (g.binds[j]?).map _=_;rw[hj];rfl)
   | some d=>rw[zTW (c := .node f n s t g) rfl ho hj,hopl];rfl
  | var j i =>
   have e:yI (zJ (sbR N y b f n s t g)) (.var j i)=(g.alts[j]?).bind (fun a=>(zBO (ΦF N y b) y b.fv a.2.1 a.2.2).1[i]?):=by
    show ((zJ (sbR N y b f n s t g)).ls[j]?).bind _=_;rw[hls,List.getElem?_map];cases g.alts[j]?<;>rfl
   rw[e];cases hj:g.alts[j]? with
   | none=>exact zDT (c := .node f n s t g) (q := .var j i) (by show (g.alts[j]?).bind _=_;rw[hj];rfl)
   | some a =>
    show _=(zBO (ΦF N y b) y b.fv a.2.1 a.2.2).1[i]?;rw[zNS];simp only[List.getElem?_map];cases hi:a.2.1[i]? with
    | none=>exact zDT (c := .node f n s t g) (q := .var j i) (by show (g.alts[j]?).bind _=_;rw[hj];exact hi)
    | some m=>rw[zZS (c := .node f n s t g) ho hj hi];rfl
end
theorem fv7 {n:Int} {s y:ByteArray} {q:Cr}:y∈(Cr.node 7 n s .no (.kid q .nil)).fv↔y∈q.fv:=by
 have e:(Cr.node 7 n s .no (.kid q .nil)).fv=zC (fun y=>memb y []) [] q.fv:=rfl;rw[e,mem_insAll];constructor
 ·rintro (h|⟨h,_⟩)
  ·cases h
  ·exact h
 ·exact fun h => .inr ⟨h,rfl⟩
section
variable {N:Nat} {y:ByteArray} {b:Cr} {n:Int} {s:ByteArray} {q:Cr}
theorem z1Q:plan ((Cr.kid q .nil).parts0.flatMap Cr.fv) (Cr.node 7 n s .no (.kid q .nil)).names0 y b.fv=if y∈q.fv then some [] else none:=by
 have e1:(Cr.kid q .nil).parts0.flatMap Cr.fv=q.fv:=by simp[Cr.parts0,Cr.kids,Cr.binds]
 have e2:(Cr.node 7 n s .no (.kid q .nil)).names0=[]:=rfl;rw[e1,e2];unfold plan;by_cases h:y∈q.fv
 ·rw[if_pos h,if_pos ⟨h,by simp⟩];rfl
 ·rw[if_neg h,if_neg fun e=>h e.1]
theorem z3R (h:y∉q.fv):sbR N y b 7 n s .no (.kid q .nil) = .node 7 n s .no (.kid q .nil):=by
 unfold sbR;rw[z1Q,if_neg h];rfl
theorem zSP (h:y∈q.fv):sbR N y b 7 n s .no (.kid q .nil) = .node 7 n s .no (.kid (sbF N q y b) .nil):=by
 unfold sbR;rw[z1Q,if_pos h];rfl
theorem zZ6 (h:y∉q.fv):sbF (N+1) (.node 7 n s .no (.kid q .nil)) y b = .node 7 n s .no (.kid q .nil):=by
 rw[sbF,if_neg (by decide),if_pos rfl,if_neg fun e=>h (fv7.1 e)]
theorem zVR (h:y∈q.fv) (hs:s∉b.tv):sbF (N+1) (.node 7 n s .no (.kid q .nil)) y b = .node 7 n s .no (.kid (sbF N q y b) .nil):=by
 rw[sbF,if_neg (by decide),if_pos rfl,if_pos (fv7.2 h),if_neg hs];rfl
theorem zV2 (h:y∈q.fv) (hs:s∈b.tv):sbF (N+1) (.node 7 n s .no (.kid q .nil)) y b = .node 7 n (lett (ff (b.tv++q.tv))) .no (.kid (sbF N (stF N q s (.var (lett (ff (b.tv++q.tv))))) y b) .nil):=by
 rw[sbF,if_neg (by decide),if_pos rfl,if_pos (fv7.2 h),if_pos hs];rfl
end
def Gives2 (c:Cr) (r:AV) (o:Nat) (h:List (Nat×HO)):Prop:=(o=0/\r=eC c/\h=[])∨Gives c r o h
theorem Gives2.shut {f:Nat} {args:List AV} {c:Cr} (hc:CallsG Tryz.prog (fnv f) [] args [] (Gives2 c)):zF Tryz.prog f args (eC c):=by
 refine (hc.less0 (post':=fun r o h=>o=0/\(r=eC c∨∃(ad:Ad) (X:Nd),AdOk ad X/\X.cr=c/\r = .agg (yN ad X)/\h=hM ad X)) fun r o h hp=>?_).pure fun r o hp hpo=>?_
 ·rcases hp with⟨rfl,rfl,rfl⟩|⟨rfl,ad,X,h1,h2,rfl,rfl⟩
  ·exact⟨[],[],rfl,rfl,.inl rfl⟩
  ·exact⟨hM ad X,_,rfl,rfl,.inr ⟨ad,X,h1,h2,rfl,rfl⟩⟩
 ·obtain⟨rfl,rfl|⟨ad,X,h1,h2,rfl,rfl⟩⟩:=hpo
  ·exact⟨.refl _,rfl⟩
  ·have:=h1.frz (h:=hM ad X) fun e he=>he;rw[h2] at this;exact⟨this,rfl⟩
theorem zKQ (N:Nat) (c:Cr) (y:ByteArray) (b:Cr) (hc:Sm c) (hb:Sm b) (hN:c.sz<=N+1) (hv:c.f=1->c.s≠y) (ih:∀(d:Cr) (y:ByteArray) (b:Cr),Sm d->d.sz<=N->Sm b->zF Tryz.prog y8 [eC d,str y,eC b] (eC (sbF N d y b))) :
  Wsem Tryz.prog (zAX (zAX (bodyC Tryz.f16))) (mkC {vs:=[(1,.v (str y)),(3,.box 0 (eC c)),(5,.box 0 (eC b)),(6,.box 0 eZ)],hp:=[]})
   (fun c2=>yP tt Tryz.f16.results.toList (Gives2 (sbF (N+1) c y b)) (den c2)) (fun _ _=>False) (fun c2=>yP tt Tryz.f16.results.toList (Gives2 (sbF (N+1) c y b)) (den c2)):=by
 have hcs:=hc.sz;have hbs:=hb.sz;have hown:=zJI hc.gd (by omega);have hbtn:=zLC b;have hbw:=hb.wt;have hbtv:=jW b;have hfl:=zEV c;refine Wsem.seq ttok mixed ?_;refine .inr (.inr (.inr (.inr (.inr (.inl ⟨[],[],[],_,rfl,List.nodup_nil,rfl,hown,?_⟩)))));rintro _ _ _ ⟨rfl,ad0,hok0,rfl,rfl⟩;refine Wsem.letout 7 rfl rfl fun bb=>?_;obtain⟨ad,had⟩:∃ad:Ad,ad={ad0 with b0:=bb}:=⟨_,rfl⟩
 have hok:AdOk ad (zJ c):=by subst had;exact⟨hok0.k,hok0.b,hok0.a,hok0.len,hok0.vs⟩
 refine Wsem.cut {vs:=[(1,.v (str y)),(3,.box 0 (eC c)),(5,.box 0 (eC b)),(6,.box 0 eZ),(7,.v (pt ad.b0 0))],hp:=HP ad (zJ c)} ⟨⟨rfl,rfl,rfl,rfl,by subst had;rfl,trivial⟩,trivial,by subst had;rfl⟩ ?_;have hall:=zNO (N+1) c y b hc.n hc.ok hb.n hb.ok;have fin:∀(c':Cr),Sm c'->c'.sz<=N+1->AdOk ad (zJ c')->zHI N y b c'=zJ (sbF (N+1) c y b) ->
   Wsem Tryz.prog (sn4 (bodyC Tryz.f16)) (mkC {vs:=[(1,.v (str y)),(5,.box 0 (eC b)),(6,.box 0 eZ),(7,.v (pt ad.b0 0))],hp:=HP ad (zJ c')})
    (fun c2=>yP tt Tryz.f16.results.toList (Gives2 (sbF (N+1) c y b)) (den c2)) (fun _ _=>False) (fun c2=>yP tt Tryz.f16.results.toList (Gives2 (sbF (N+1) c y b)) (den c2)):=fun c' hc' hs' hok' hX=>by
  refine z3X N hc' hs' hok' y b hb ih (zHI N y b c') rfl _ fun hk => .inr ⟨rfl,ad,_,hk,?_,rfl,rfl⟩;rw[hX];exact zTE hall.1 hall.2.1
 refine Wsem.seq ttok mixed ?_;refine⟨fun h7=>?_,fun h7=>?_⟩
 ·have h7:c.f=7:=of_decide_eq_true h7;have hfr:=zC8 hc.n hc.ok hc.gd.few (by omega);refine .inl ⟨_,hfr,?_⟩;refine .inl ⟨_,yS (l:=c.fv) (s:=y) (by omega),?_⟩;obtain⟨n,s,q,rfl⟩:=z5M hc.ok hc.n h7;refine⟨fun h2=>?_,fun h2=>?_⟩
  ·have h2:y∈q.fv:=fv7.1 (memb_iff.1 h2);have hq:=hc.part (p := .kid 0) (d:=q) rfl;have hqN:q.sz<=N:=by omega
   have hcl:=zO3 hok (q:=q) rfl hq.1 b.tv (by omega) N fun z hz=>zK1 N q s (.var z) hq.1 hqN hz (by simp[Tp.sz]);refine .inl ⟨_,zCK hb.n hb.ok (by omega) (by omega),?_⟩;refine .inr (.inr (.inr (.inr (.inr (.inl ⟨List.range (HP ad (zJ (.node 7 n s .no (.kid q .nil)))).length,_,[],_,xX _,List.nodup_range,rfl,hcl,?_⟩)))));rintro _ _ _ ⟨rfl,rfl⟩;have hx2:∃c',clX N b.tv q (zJ (.node 7 n s .no (.kid q .nil)))=zJ c'/\Sm c'/\c'.sz<=N+1/\AdOk ad (zJ c')/\zHI N y b c'=zJ (sbF (N+1) (.node 7 n s .no (.kid q .nil)) y b):=by
    by_cases hs:s∈b.tv
    ·have hz:Low 2000 (lett (ff (b.tv++q.tv))):=by
      have hff:=zE5 (b.tv++q.tv);have h5:=jW q;have h6:=zLC q;have h8:=hq.1.wt;rw[List.length_append] at hff;exact⟨_,by omega,rfl⟩
     have hst:=hq.1.st N s _ hz;have hsf:=zEE N q s (.var (lett (ff (b.tv++q.tv)))) hq.1.ok;have hwt:=zXM N q s _ hq.1.n hq.1.ok hq.1.wt hq.1.low hz;have hcl2:clX N b.tv q (zJ (.node 7 n s .no (.kid q .nil)))=zJ (.node 7 n (lett (ff (b.tv++q.tv))) .no (.kid (stF N q s (.var (lett (ff (b.tv++q.tv))))) .nil)):=by
      unfold clX;rw[if_pos (show (zJ (Cr.node 7 n s .no (.kid q .nil))).s∈b.tv from hs)];rfl
     have hok7:(Cr.node 7 n (lett (ff (b.tv++q.tv))) .no (.kid (stF N q s (.var (lett (ff (b.tv++q.tv))))) .nil)).Ok:=by
      have:=hc.ok;exact⟨this.1,fun h=>absurd h (by decide),fun _=>rfl,this.2.2.2.1,this.2.2.2.2.1,this.2.2.2.2.2.1,this.2.2.2.2.2.2.1,hst.n,rfl,hst.ok,trivial⟩
     have hw:=hc.wt;simp only[Cr.wt] at hw;refine⟨_,hcl2,⟨rfl,hok7,by simp only[Cr.wt,hwt.2.2.1];omega,trivial,hst.low,trivial⟩,by simp only[Cr.sz,hsf.1] at hN⊢;exact hN,?_,?_⟩
     ·rw[<-hcl2];unfold clX;rw[if_pos (show (zJ (Cr.node 7 n s .no (.kid q .nil))).s∈b.tv from hs)];obtain⟨_,_,_,_,_,r⟩:=zA2 hok (p := .kid 0) (c:=q) rfl;exact ((zJY (r _).2).2 _).2
     ·rw[zIA hok7,zSP (by rw[hsf.2.1];exact h2),zV2 h2 hs]
    ·have hcl2:clX N b.tv q (zJ (.node 7 n s .no (.kid q .nil)))=zJ (.node 7 n s .no (.kid q .nil)):=by
      unfold clX;rw[if_neg (show ¬(zJ (Cr.node 7 n s .no (.kid q .nil))).s∈b.tv from hs)]
     exact⟨_,hcl2,hc,hN,hok,by rw[zIA hc.ok,zSP h2,zVR h2 hs]⟩
   obtain⟨c',e1,e2,e3,e4,e5⟩:=hx2;refine Wsem.cut _ ?_ (fin c' e2 e3 e4 e5);refine⟨⟨rfl,rfl,rfl,rfl,trivial⟩,trivial,?_⟩;show zT (List.range _) (HP ad (zJ (.node 7 n s .no (.kid q .nil))))++HP ad (clX N b.tv q (zJ (.node 7 n s .no (.kid q .nil))))=_;rw[qF,List.nil_append,e1]
  ·have h2:y∉q.fv:=fun hm=>by rw[memb_iff.2 (fv7.2 hm)] at h2;cases h2
   refine Wsem.cut _ ?_ (fin _ hc hN hok (by rw[zIA hc.ok,z3R h2,zZ6 h2]));exact⟨⟨rfl,rfl,rfl,rfl,trivial⟩,trivial,rfl⟩
 ·have h7:¬c.f=7:=of_decide_eq_false h7;have hlaw:zHI N y b c=zJ (sbF (N+1) c y b):=by
   have hn:=hc.n;have ho:=hc.ok;cases c with
   | node f n s t g =>
    rw[zIA ho];by_cases h1:f=1
    ·have hs:¬s=y:=hv h1;obtain⟨e1,e2⟩:=ho.2.1 h1;subst h1;subst e1;subst e2;rw[sbF,if_pos rfl,if_neg hs]
     rfl
    ·rw[z2G h1 h7]
   | _=>cases hn
  refine Wsem.cut _ ?_ (fin c hc hN hok hlaw);exact⟨⟨rfl,rfl,rfl,rfl,trivial⟩,trivial,rfl⟩
theorem zQS (N:Nat) (c:Cr) (y:ByteArray) (b:Cr) (hc:Sm c) (hb:Sm b) (hN:c.sz<=N+1) (ih:∀(d:Cr) (y:ByteArray) (b:Cr),Sm d->d.sz<=N->Sm b->zF Tryz.prog y8 [eC d,str y,eC b] (eC (sbF N d y b))) :
  CallsG Tryz.prog (fnv y8) [] [eC c,str y,eC b] [] (Gives2 (sbF (N+1) c y b)):=by
 have hbs:=hb.sz;refine zM (first:=[]) (cap:=[]) ttok mixed Tryz.func16 rfl (by rfl) rfl (Nat.le_of_ble_eq_true rfl) (by kernel_rfl) ?_;refine Wsem.seq ttok mixed ?_;refine Wsem.seq ttok mixed ?_;refine⟨fun h1=>?_,fun h1=>?_⟩
 ·have h1:c.f=1:=of_decide_eq_true h1;refine⟨fun h2=>?_,fun h2=>?_⟩
  ·have h2:c.s=y:=of_decide_eq_true h2;refine .inl ⟨_,zJO hb.gd (by omega),?_⟩;refine .inl ⟨rfl,?_,rfl⟩;have hn:=hc.n;have ho:=hc.ok;cases c with
   | node f n s t g =>
    have e1:f=1:=h1;have e2:s=y:=h2;rw[sbF,if_pos e1,if_pos e2]
    rfl
   | _=>cases hn
  ·have h2:¬c.s=y:=of_decide_eq_false h2;refine Wsem.cut _ ?_ (zKQ N c y b hc hb hN (fun _=>h2) ih);exact⟨⟨rfl,rfl,rfl,rfl,trivial⟩,trivial,rfl⟩
 ·have h1:¬c.f=1:=of_decide_eq_false h1;refine Wsem.cut _ ?_ (zKQ N c y b hc hb hN (fun h=>absurd h h1) ih);exact⟨⟨rfl,rfl,rfl,rfl,trivial⟩,trivial,rfl⟩
theorem zUZ (N:Nat):∀(c:Cr) (y:ByteArray) (b:Cr),Sm c->c.sz<=N->Sm b->zF Tryz.prog y8 [eC c,str y,eC b] (eC (sbF N c y b)):=by
 induction N with
 | zero=>intro c y b hc hs;have:=zAC hc.n;omega
 | succ N ih=>exact fun c y b hc hs hb=>Gives2.shut (zQS N c y b hc hb hs ih)
end Go.Proofs.YtgonkhaebmfgiaaGreatDoor
