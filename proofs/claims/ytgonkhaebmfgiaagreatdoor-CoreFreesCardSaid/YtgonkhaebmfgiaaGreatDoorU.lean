/- The document's small functions: Few, more, Fresh, typed. No condition but on lengths. -/
import Derived.Test.YtgonkhaebmfgiaaGreatDoorR
import Derived.Test.YtgonkhaebmfgiaaGreatDoorN
import Derived.Test.YtgonkhaebmfgiaaGreatDoorB
import Derived.Test.YtgonkhaebmfgiaaGreatDoorT
set_option linter.unusedSimpArgs false
set_option linter.unusedVariables false
namespace Go.Proofs.YtgonkhaebmfgiaaGreatDoor
open Go Fp
set_option maxRecDepth 10000
set_option maxHeartbeats 8000000
set_option linter.unusedVariables false
theorem z6I {c:Cr} (hn:c.isN=true) (ho:c.Ok):c.kids.length=Cr.nk c.f:=by
 cases c with
 | node f n s t g=>exact ho.2.2.2.1
 | _=>cases hn
theorem zBS {c:Cr} (hn:c.isN=true) (ho:c.Ok):zC Tryz.prog zIL [eC c] (.sb false):=by
 have hk:=z6I hn ho;have hl:(c.e3 0).length=Cr.nk c.f:=by rw[zGW,hk]
 refine zY ttok mixed Tryz.func59 rfl (by rfl) (Nat.le_of_ble_eq_true rfl) (by kernel_rfl) ?_;refine Wsem.seq ttok mixed ?_;refine Wsem.seq ttok mixed ?_;refine Wsem.cut {vs:=[(1,.box 0 (eC c)),(3,sv (Cr.nk c.f:Nat))]} ⟨⟨rfl,svc (by rw[hl]),trivial⟩,trivial,rfl⟩ ?_;refine Wsem.seq ttok mixed ?_;refine⟨fun h4=>?_,fun h4=>?_⟩
 ·have h4:¬c.f=4:=of_decide_eq_false h4;refine⟨fun h10=>?_,fun h10=>?_⟩
  ·have h10:c.f=10:=of_decide_eq_true h10;rw[show Cr.nk c.f=2 by rw[h10];rfl];exact rfl
  ·have h10:¬c.f=10:=of_decide_eq_false h10;refine Wsem.cut {vs:=[(1,.box 0 (eC c)),(3,sv (Cr.nk c.f:Nat))]} ⟨⟨rfl,rfl,trivial⟩,trivial,rfl⟩ ?_;have yes:(c.f=5∨c.f=6∨c.f=7∨c.f=8∨c.f=9)->Cr.nk c.f=1:=fun h=>by unfold Cr.nk;rw[if_neg (by omega),if_pos h]
   have tail:∀b:Bool,(b=true->Cr.nk c.f=1)->Wsem Tryz.prog (sn4 (bodyC Tryz.f59)) (mkC {vs:=[(3,sv (Cr.nk c.f:Nat)),(4,.v (.sb b))]}) (fun c2=>jM tt Tryz.f59.results.toList (.sb false) (den c2)) (fun _ _=>False) (fun c2=>jM tt Tryz.f59.results.toList (.sb false) (den c2)):=by
    intro b hb;refine Wsem.of ttok mixed ?_;refine⟨fun h=>?_,fun h=>?_⟩
    ·rw[hb h];exact rfl
    ·exact rfl
   refine Wsem.seq ttok mixed ?_;refine⟨fun h5=>?_,fun h5=>?_⟩
   ·refine⟨fun h6=>?_,fun h6=>?_⟩
    ·refine⟨fun h7=>?_,fun h7=>?_⟩
     ·refine⟨fun h8=>?_,fun h8=>?_⟩
      ·refine Wsem.cut _ ?_ (tail (decide (c.f=9)) fun h=>yes (.inr (.inr (.inr (.inr (of_decide_eq_true h))))));exact⟨⟨rfl,rfl,trivial⟩,trivial,rfl⟩
      ·refine Wsem.cut _ ?_ (tail true fun _=>yes (.inr (.inr (.inr (.inl (of_decide_eq_true h8))))));exact⟨⟨rfl,rfl,trivial⟩,trivial,rfl⟩
     ·refine Wsem.cut _ ?_ (tail true fun _=>yes (.inr (.inr (.inl (of_decide_eq_true h7)))));exact⟨⟨rfl,rfl,trivial⟩,trivial,rfl⟩
    ·refine Wsem.cut _ ?_ (tail true fun _=>yes (.inr (.inl (of_decide_eq_true h6))));exact⟨⟨rfl,rfl,trivial⟩,trivial,rfl⟩
   ·refine Wsem.cut _ ?_ (tail true fun _=>yes (.inl (of_decide_eq_true h5)));exact⟨⟨rfl,rfl,trivial⟩,trivial,rfl⟩
 ·have h4:c.f=4:=of_decide_eq_true h4;rw[show Cr.nk c.f=2 by rw[h4];rfl];exact rfl
abbrev zZ6 (l g out:List ByteArray):Prop:=CallsG Tryz.prog (fnv zHV) [] [.sl (eSs l),.sl (eSs g),.sl (eSs out)] [0,0,2] fun r o h=>r = .sl (eSs (zA (fun y=>memb y g) out l))/\o=2/\h=[]
theorem zMX (l g out:List ByteArray) (ho:out.length<=2000000) (hl:l.length<=2000000) (hg:g.length<=2000000):zZ6 l g out:=by
 refine wM ttok mixed Tryz.func132 rfl (by rfl) (by rfl) (Nat.le_of_ble_eq_true rfl) (Nat.le_of_ble_eq_true rfl) (by kernel_rfl) ?_;refine⟨{k:Nat // k<=l.length},fun k=>{vs:=[(0,.v (.sl (eSs l))),(1,.v (.sl (eSs g))),(2,.v (.sl (eSs (zA (fun y=>memb y g) out (l.take k.1))))),(7,sv (k.1:Nat))],ow:=[(2,0,2)]},
  fun k=>l.length-k.1,⟨0,Nat.zero_le _⟩,⟨⟨rfl,rfl,rfl,rfl,trivial⟩,⟨rfl,trivial⟩,rfl⟩,?_⟩
 rintro⟨k,hk⟩;have hlen:=zJ (fun y=>memb y g) (l.take k) out;have hlk:(l.take k).length<=l.length:=by simp;omega
 refine⟨fun h=>?_,fun h=>?_⟩
 ·have h:k<l.length:=by have h:=of_decide_eq_true h;rw[qA] at h;simp only at h;omega
  have e1:=zB4 (p:=fun y=>memb y g) (out:=out) h;refine⟨_,by omega,zEK h,rfl,?_⟩;refine .inl ⟨_,wV (l:=g) (s:=l[k]) (by omega),?_⟩;refine⟨fun h1=>?_,fun h1=>?_⟩
  ·have h1:memb l[k] g=false:=by simpa using h1
   refine⟨_,by omega,zEK h,rfl,?_⟩;refine .inl ⟨_,wV (l:=zA (fun y=>memb y g) out (l.take k)) (s:=l[k]) (by omega),?_⟩;refine⟨fun h2=>?_,fun h2=>?_⟩
   ·have h2:memb l[k] (zA (fun y=>memb y g) out (l.take k))=false:=by simpa using h2
    refine⟨_,by omega,zEK h,rfl,?_⟩;refine⟨by show (eSs (zA (fun y=>memb y g) out (l.take k))).length+1<=_;rw[qA];omega,yI _,wC rfl,?_⟩;refine⟨⟨k+1,h⟩,by simp;omega,⟨rfl,rfl,?_,svc (wrap_succ (k:=k) (by omega)),trivial⟩,⟨rfl,trivial⟩,rfl⟩;show SV.v (AV.sl (eSs (zA (fun y=>memb y g) out (l.take k))++[str l[k]]))=SV.v (AV.sl (eSs (zA (fun y=>memb y g) out (l.take (k+1)))));rw[e1,zBB h2 h1];simp[eSs]
   ·have h2:memb l[k] (zA (fun y=>memb y g) out (l.take k))=true:=by simpa using h2
    refine⟨⟨k+1,h⟩,by simp;omega,⟨rfl,rfl,?_,svc (wrap_succ (k:=k) (by omega)),trivial⟩,⟨rfl,trivial⟩,rfl⟩;show SV.v (AV.sl (eSs (zA (fun y=>memb y g) out (l.take k))))=SV.v (AV.sl (eSs (zA (fun y=>memb y g) out (l.take (k+1)))));rw[e1,zAG (.inl h2)]
  ·have h1:memb l[k] g=true:=by simpa using h1
   refine⟨⟨k+1,h⟩,by simp;omega,⟨rfl,rfl,?_,svc (wrap_succ (k:=k) (by omega)),trivial⟩,⟨rfl,trivial⟩,rfl⟩;show SV.v (AV.sl (eSs (zA (fun y=>memb y g) out (l.take k))))=SV.v (AV.sl (eSs (zA (fun y=>memb y g) out (l.take (k+1)))));rw[e1,zAG (.inr h1)]
 ·have h:k=l.length:=by have h:=of_decide_eq_false h;rw[qA] at h;simp only at h;omega
  subst h;rw[List.take_length];exact⟨rfl,rfl,rfl⟩
theorem zI8 (l:List ByteArray) (hl:l.length<1000000000) (hff:ff l<2599):zC Tryz.prog zGL [.sl (eSs l)] (str (lett (ff l))):=by
 refine zG ttok mixed Tryz.func61 rfl (by rfl) (Nat.le_of_ble_eq_true rfl) (by kernel_rfl) ?_;refine⟨{k:Nat // k<=ff l},fun k=>{vs:=[(0,.v (.sl (eSs l))),(3,sv (k.1:Nat))]},fun k=>ff l-k.1,⟨0,Nat.zero_le _⟩,⟨⟨rfl,rfl,trivial⟩,trivial,rfl⟩,?_⟩;rintro⟨k,hk⟩;refine .inl ⟨_,zAP (n:=k) (by omega),?_⟩;refine .inl ⟨_,wV (l:=l) (s:=lett k) (by omega),?_⟩;refine⟨fun h=>?_,fun h=>?_⟩
 ·have hne:¬k=ff l:=fun he=>zA6 l (he ▸ memb_iff.1 h);exact⟨⟨k+1,by omega⟩,by simp;omega,⟨rfl,svc (wrap_succ (k:=k) (by omega)),trivial⟩,trivial,rfl⟩
 ·have he:k=ff l:=by
   by_cases hlt:k<ff l
   ·have:=memb_iff.2 (zD7 l k hlt);rw[this] at h;cases h
   ·omega
  subst he;refine .inl ⟨_,zAP (n:=ff l) (by omega),?_⟩;exact rfl
theorem zSM {K:Nat} {t u:Tp} {v:ByteArray} (hf:t = .no∨Fit K t [(v,u)]):zC Tryz.prog zG4 [eTy t,str v,eTy u] (eTy (sub t [(v,u)])):=by
 refine zG ttok mixed Tryz.func66 rfl (by rfl) (Nat.le_of_ble_eq_true rfl) (by kernel_rfl) ?_;by_cases h0:t = .no
 ·subst h0;refine⟨fun _=>?_,fun h=>absurd h (by decide)⟩;exact rfl
 ·have hf:=hf.resolve_left h0;refine⟨fun h=>?_,fun h=>?_⟩
  ·exfalso;have h:=of_decide_eq_true h;cases t<;>first|exact h0 rfl|(simp[Tp.form] at h)
  ·have hs:=zZ7 t.sz t (Nat.le_refl _) K [(v,u)] hf;unfold qU at hs;refine .inl ⟨_,hs,?_⟩;exact rfl
set_option maxHeartbeats 16000000
def rsT (c:Cr):List ByteArray:=c.kids.flatMap Cr.tv++(c.binds.flatMap tB++c.alts.flatMap tA)
theorem z5C (P:ByteArray->Bool) (g:Cr):∀out,g.isN=false->g.Ok->zA P out g.tv=zA P out (rsT g):=by
 induction g with
 | nil=>intro out _ _;rfl
 | node=>intro out h;cases h
 | kid p r _ ih =>
  intro out _ ho;show zA _ out (zA no p.tv r.tv)=zA P out ((p::r.kids).flatMap Cr.tv++(r.binds.flatMap tB++r.alts.flatMap tA));rw[zN _ no P (fun s=>by simp[no]),ih _ ho.2.1 ho.2.2.2];unfold rsT;simp only[List.flatMap_cons,List.append_assoc];rw[zL P out p.tv]
 | bind x t p r _ ih =>
  intro out _ ho;show zA _ out (zA no (zA no (fvT t) p.tv) r.tv)=zA P out (r.kids.flatMap Cr.tv++(((x,t,p)::r.binds).flatMap tB++r.alts.flatMap tA));rw[zN _ no P (fun s=>by simp[no]),zN _ no P (fun s=>by simp[no]),ih _ ho.2.1 ho.2.2.2.2];unfold rsT;rw[ho.2.2.1];simp only[List.flatMap_nil,List.nil_append,List.flatMap_cons,List.append_assoc];rw[zL P out (fvT t),zL P _ p.tv]
 | alt f n s vs p r _ ih =>
  intro out _ ho;show zA _ out (zA no p.tv r.tv)=zA P out (r.kids.flatMap Cr.tv++(r.binds.flatMap tB++((((f,n,s),vs,p):Alg)::r.alts).flatMap tA));rw[zN _ no P (fun s=>by simp[no]),ih _ ho.2.1 ho.2.2.2.2.2.2];unfold rsT;rw[ho.2.2.1,ho.2.2.2.1];simp only[List.flatMap_nil,List.nil_append,List.flatMap_cons,List.append_assoc];rw[zL P out p.tv]
def gIn (c:Cr) (g:List ByteArray):List ByteArray:=if c.f=7 then g++[c.s] else g
theorem zb5 {c:Cr} (hn:c.isN=true) (ho:c.Ok) (g out:List ByteArray):zA (fun y=>memb y g) out c.tv=zA (fun y=>memb y (gIn c g)) (zA (fun y=>memb y g) out (fvT c.t)) (rsT c):=by
 cases c with
 | node f n s t k =>
  show zA _ out (zA (fun y=>decide (f=7) && decide (y=s)) (fvT t) k.tv)=_;rw[zN _ _ (fun y=>memb y (gIn (.node f n s t k) g)) (fun y=>?_)]
  ·exact z5C _ k _ (zO ho).1 (zO ho).2
  ·unfold gIn;show memb y (if f=7 then g++[s] else g)=(memb y g || (decide (f=7) && decide (y=s)));by_cases h7:f=7
   ·rw[if_pos h7,Bool.eq_iff_iff];simp[memb,h7]
   ·rw[if_neg h7];simp[h7]
 | _=>cases hn
abbrev zGZ (c:Cr) (g out:List ByteArray):Prop:=CallsG Tryz.prog (fnv 92) [] [eC c,.sl (eSs g),.sl (eSs out)] [0,0,2] fun r o h=>r = .sl (eSs (zA (fun y=>memb y g) out c.tv))/\o=2/\h=[]
theorem zPH {α β:Type} {F:α->List β} {w:α->Nat} (hF:∀a,(F a).length<=w a) (l:List α) {k:Nat} (h:k<l.length):((l.take k).flatMap F).length+w l[k]<=(l.map w).sum:=by
 induction l generalizing k with
 | nil=>exact absurd h (Nat.not_lt_zero k)
 | cons a l ih =>
  cases k with
  | zero=>simp
  | succ k =>
   have h1:=ih (k:=k) (by simpa using h);have h2:=hF a;simp only[List.take_succ_cons,List.flatMap_cons,List.length_append,List.map_cons,List.sum_cons,List.getElem_cons_succ];omega
theorem z1Q {α β:Type} {F:α->List β} {w:α->Nat} (hF:∀a,(F a).length<=w a) (l:List α):(l.flatMap F).length<=(l.map w).sum:=by
 induction l with
 | nil=>simp
 | cons a l ih=>have h2:=hF a;simp only[List.flatMap_cons,List.length_append,List.map_cons,List.sum_cons];omega
def tnB (b:Bdg):Nat:=b.2.1.sz+b.2.2.tn
def tnA (a:Alg):Nat:=a.2.2.tn
theorem z3Z (c:Cr):(c.kids.map Cr.tn).sum+(c.binds.map tnB).sum+(c.alts.map tnA).sum+(if c.isN then c.t.sz else 0)<=c.tn∨¬c.Ok:=by
 by_cases ho:c.Ok
 ·left
  induction c with
  | nil=>exact Nat.le_refl _
  | node f n s t g ih =>
   have h1:=ih (zO ho).2;rw[(zO ho).1] at h1;simp only[Cr.kids,Cr.binds,Cr.alts,Cr.tn,Cr.isN,Cr.t,if_true,Bool.false_eq_true,if_false] at h1⊢;omega
  | kid p r _ ih =>
   have h1:=ih ho.2.2.2;rw[ho.2.1] at h1;simp only[Cr.kids,Cr.binds,Cr.alts,Cr.tn,Cr.isN,List.map_cons,List.sum_cons,Bool.false_eq_true,if_false,tnB,tnA] at h1⊢;omega
  | bind x t p r _ ih =>
   have h1:=ih ho.2.2.2.2;rw[ho.2.1] at h1;simp only[Cr.kids,Cr.binds,Cr.alts,Cr.tn,Cr.isN,List.map_cons,List.sum_cons,Bool.false_eq_true,if_false,tnB,tnA] at h1⊢;omega
  | alt f n s vs p r _ ih =>
   have h1:=ih ho.2.2.2.2.2.2;rw[ho.2.1] at h1;simp only[Cr.kids,Cr.binds,Cr.alts,Cr.tn,Cr.isN,List.map_cons,List.sum_cons,Bool.false_eq_true,if_false,tnB,tnA] at h1⊢;omega
 ·exact .inr ho
theorem z1Y (b:Bdg):(tB b).length<=tnB b:=by
 have h1:=yK b.2.1;have h2:=xY b.2.2;simp only[tB,tnB,fvT,List.length_append];omega
theorem z1Z (a:Alg):(tA a).length<=tnA a:=xY a.2.2
theorem zSA (N:Nat) (c:Cr) (hn:c.isN=true) (ho:c.Ok) (hs:c.sz<=N+1) (hN:N<900000) (ht:c.tn<900000) (g out:List ByteArray) (hg:g.length+c.sz<=1900000) (hout:out.length+c.tn<=1900000)
  (ih:∀(p:Cr) (g out:List ByteArray),p.isN=true->p.Ok->p.sz<=N->p.tn<900000->g.length+p.sz<=1900000->out.length+p.tn<=1900000->zGZ p g out):zGZ c g out:=by
 have hl:=xA c ho;have htt:=zcV hn;have hfl:(fvT c.t).length<=c.t.sz:=yK c.t;have hpt:=(z3Z c).resolve_right (fun h=>h ho);rw[hn] at hpt;simp only[if_true] at hpt;have w1:=z1Q (F:=Cr.tv) (w:=Cr.tn) xY c.kids;have w2:=z1Q (F:=tB) (w:=tnB) z1Y c.binds;have w3:=z1Q (F:=tA) (w:=tnA) z1Z c.alts;obtain⟨G,hG⟩:∃G,G=gIn c g:=⟨_,rfl⟩
 obtain⟨T0,hT0⟩:∃T0,T0=zA (fun y=>memb y g) out (fvT c.t):=⟨_,rfl⟩
 have hT0l:=zJ (fun y=>memb y g) (fvT c.t) out;rw[<-hT0] at hT0l;have hout2:=zb5 hn ho g out;rw[<-hG,<-hT0] at hout2;have hGl:G.length<=g.length+1:=by rw[hG];unfold gIn;split<;>simp
 have hG7:c.f=7->eSs g++[str c.s]=eSs G:=fun h=>by rw[hG];unfold gIn;rw[if_pos h];simp[eSs]
 have hG0:¬c.f=7->eSs g=eSs G:=fun h=>by rw[hG];unfold gIn;rw[if_neg h]
 have ilen:=fun l=>zJ (fun y=>memb y G) l T0;have hc0:=wI hn;show CallsG Tryz.prog (fnv 92) [] [eC c,.sl (eSs g),.sl (eSs out)] [0,0,2] _;refine wM (first:=[]) (cap:=[]) ttok mixed Tryz.func92 rfl (by rfl) (by rfl) (Nat.le_of_ble_eq_true rfl) (Nat.le_of_ble_eq_true rfl) (by kernel_rfl) ?_;refine .inl ⟨_,zC2 c.t (by omega),?_⟩;refine .inr ⟨rfl,[],[],[0,0,2],_,rfl,List.nodup_nil,rfl,zMX (fvT c.t) g out (by omega) (by omega) (by omega),?_⟩;rintro _ _ _ ⟨rfl,rfl,rfl⟩;rw[<-hT0];refine⟨by rw[qA];simp only[List.length_nil];omega,zH5 1,yI _,?_⟩;refine⟨fun h=>?_,fun h=>?_⟩
 ·have h7:c.f=7:=of_decide_eq_true h;have hX:=hG7 h7;refine⟨by show ([]++eSs g).length+1<=_;rw[List.nil_append,qA];omega,yI g,wC rfl,?_⟩;refine⟨{k:Nat // k<=c.kids.length},fun k=>{vs:=[(3,.box 0 (eC c)),(7,.v (.sl (eSs G))),(2,.v (.sl (eSs (zA (fun y=>memb y G) T0 ((c.kids.take k.1).flatMap Cr.tv))))),(8,sv (k.1:Nat))],ow:=[(2,0,2)]},
   fun k=>c.kids.length-k.1,⟨0,Nat.zero_le _⟩,⟨⟨rfl,congrArg (fun l=>SV.v (AV.sl l)) hX,rfl,rfl,trivial⟩,⟨rfl,trivial⟩,rfl⟩,?_⟩
  rintro⟨k,hk⟩;refine⟨fun h=>?_,fun h=>?_⟩
  ·have h:k<c.kids.length:=by have h:=of_decide_eq_true h;rw[zGW] at h;simp only at h;omega
   have hsz:=zBT (List.getElem_mem h);rw[hn] at hsz;simp only[if_true] at hsz;have htn:=zUE (List.getElem_mem h);have hpw:=zPH (F:=Cr.tv) (w:=Cr.tn) xY c.kids h;have hi:=ilen ((c.kids.take k).flatMap Cr.tv);refine⟨_,by omega,zJ7 h,rfl,?_⟩;refine .inr ⟨rfl,[],[],[0,0,2],_,rfl,List.nodup_nil,rfl,ih c.kids[k] G (zA (fun y=>memb y G) T0 ((c.kids.take k).flatMap Cr.tv)) (ho.kid (List.getElem_mem h)).1 (ho.kid (List.getElem_mem h)).2 (by omega) (by omega) (by omega) (by omega),?_⟩;rintro _ _ _ ⟨rfl,rfl,rfl⟩;refine⟨⟨k+1,h⟩,by simp;omega,⟨rfl,rfl,?_,svc (wrap_succ (k:=k) (by omega)),trivial⟩,⟨rfl,trivial⟩,rfl⟩;show SV.v (AV.sl (eSs (zA _ (zA _ T0 _) _)))=SV.v (AV.sl (eSs (zA _ T0 _)));rw[<-zL,qH Cr.tv h]
  have h:k=c.kids.length:=by have h:=of_decide_eq_false h;rw[zGW] at h;simp only at h;omega
  subst h;refine⟨{k:Nat // k<=c.binds.length},fun k=>{vs:=[(3,.box 0 (eC c)),(7,.v (.sl (eSs G))),(2,.v (.sl (eSs (zA (fun y=>memb y G) T0 (c.kids.flatMap Cr.tv++(c.binds.take k.1).flatMap tB))))),(9,sv (k.1:Nat))],ow:=[(2,0,2)]},
   fun k=>c.binds.length-k.1,⟨0,Nat.zero_le _⟩,⟨⟨rfl,rfl,?_,rfl,trivial⟩,⟨rfl,trivial⟩,rfl⟩,?_⟩
  ·show SV.v (AV.sl (eSs _))=SV.v (AV.sl (eSs _));rw[List.take_length,List.take_zero,List.flatMap_nil,List.append_nil]
  rintro⟨k,hk2⟩;refine⟨fun h=>?_,fun h=>?_⟩
  ·have h:k<c.binds.length:=by have h:=of_decide_eq_true h;rw[zEE] at h;simp only at h;omega
   have hsz:=jS (List.getElem_mem h);rw[hn] at hsz;simp only[if_true] at hsz;have htn:=zRF (List.getElem_mem h);have hft:(fvT c.binds[k].2.1).length<=c.binds[k].2.1.sz:=yK c.binds[k].2.1;have hpw:=zPH (F:=tB) (w:=tnB) z1Y c.binds h;have htb:tnB c.binds[k]=c.binds[k].2.1.sz+c.binds[k].2.2.tn:=rfl;have hi:=ilen (c.kids.flatMap Cr.tv++(c.binds.take k).flatMap tB);have hi2:=zJ (fun y=>memb y G) (fvT c.binds[k].2.1) (zA (fun y=>memb y G) T0 (c.kids.flatMap Cr.tv++(c.binds.take k).flatMap tB));simp only[List.length_append] at hi hi2;refine⟨_,by omega,zEG h,rfl,?_⟩;refine .inl ⟨_,zC2 c.binds[k].2.1 (by omega),?_⟩;refine .inr ⟨rfl,[],[],[0,0,2],_,rfl,List.nodup_nil,rfl,zMX (fvT c.binds[k].2.1) G (zA (fun y=>memb y G) T0 (c.kids.flatMap Cr.tv++(c.binds.take k).flatMap tB)) (by omega) (by omega) (by omega),?_⟩;rintro _ _ _ ⟨rfl,rfl,rfl⟩;refine⟨_,by omega,zEG h,rfl,?_⟩;refine .inr ⟨rfl,[],[],[0,0,2],_,rfl,List.nodup_nil,rfl,ih c.binds[k].2.2 G (zA (fun y=>memb y G) (zA (fun y=>memb y G) T0 (c.kids.flatMap Cr.tv++(c.binds.take k).flatMap tB)) (fvT c.binds[k].2.1)) (ho.bind (List.getElem_mem h)).1 (ho.bind (List.getElem_mem h)).2 (by omega) (by omega) (by omega) (by omega),?_⟩;rintro _ _ _ ⟨rfl,rfl,rfl⟩;refine⟨⟨k+1,h⟩,by simp;omega,⟨rfl,rfl,?_,svc (wrap_succ (k:=k) (by omega)),trivial⟩,⟨rfl,trivial⟩,rfl⟩;show SV.v (AV.sl (eSs (zA _ (zA _ (zA _ T0 _) _) _)))=SV.v (AV.sl (eSs (zA _ T0 _)))
   rw[<-zL,<-zL,qH tB h];simp only[List.append_assoc,tB]
  have h:k=c.binds.length:=by have h:=of_decide_eq_false h;rw[zEE] at h;simp only at h;omega
  subst h;refine⟨{k:Nat // k<=c.alts.length},fun k=>{vs:=[(3,.box 0 (eC c)),(7,.v (.sl (eSs G))),(2,.v (.sl (eSs (zA (fun y=>memb y G) T0 (c.kids.flatMap Cr.tv++(c.binds.flatMap tB++(c.alts.take k.1).flatMap tA)))))),(10,sv (k.1:Nat))],ow:=[(2,0,2)]},
   fun k=>c.alts.length-k.1,⟨0,Nat.zero_le _⟩,⟨⟨rfl,rfl,?_,rfl,trivial⟩,⟨rfl,trivial⟩,rfl⟩,?_⟩
  ·show SV.v (AV.sl (eSs _))=SV.v (AV.sl (eSs _));rw[List.take_length,List.take_zero,List.flatMap_nil,List.append_nil]
  rintro⟨k,hk3⟩;refine⟨fun h=>?_,fun h=>?_⟩
  ·have h:k<c.alts.length:=by have h:=of_decide_eq_true h;rw[zIH] at h;simp only at h;omega
   have hsz:=zBX (List.getElem_mem h);rw[hn] at hsz;simp only[if_true] at hsz;have htn:=zUF (List.getElem_mem h);have hpw:=zPH (F:=tA) (w:=tnA) z1Z c.alts h;have hta:tnA c.alts[k]=c.alts[k].2.2.tn:=rfl;have hi:=ilen (c.kids.flatMap Cr.tv++(c.binds.flatMap tB++(c.alts.take k).flatMap tA));simp only[List.length_append] at hi;refine⟨_,by omega,zGE h,rfl,?_⟩;refine .inr ⟨rfl,[],[],[0,0,2],_,rfl,List.nodup_nil,rfl,ih c.alts[k].2.2 G (zA (fun y=>memb y G) T0 (c.kids.flatMap Cr.tv++(c.binds.flatMap tB++(c.alts.take k).flatMap tA))) (ho.alt (List.getElem_mem h)).1 (ho.alt (List.getElem_mem h)).2.1 (by omega) (by omega) (by omega) (by omega),?_⟩;rintro _ _ _ ⟨rfl,rfl,rfl⟩;refine⟨⟨k+1,h⟩,by simp;omega,⟨rfl,rfl,?_,svc (wrap_succ (k:=k) (by omega)),trivial⟩,⟨rfl,trivial⟩,rfl⟩;show SV.v (AV.sl (eSs (zA _ (zA _ T0 _) _)))=SV.v (AV.sl (eSs (zA _ T0 _)));rw[<-zL,qH tA h];simp only[List.append_assoc]
  have h:k=c.alts.length:=by have h:=of_decide_eq_false h;rw[zIH] at h;simp only at h;omega
  subst h;rw[List.take_length];refine⟨?_,rfl,rfl⟩;show AV.sl (eSs _)=_;rw[hout2];rfl
 ·have h7:¬c.f=7:=of_decide_eq_false h;have hX:=hG0 h7;refine⟨{k:Nat // k<=c.kids.length},fun k=>{vs:=[(3,.box 0 (eC c)),(7,.v (.sl (eSs G))),(2,.v (.sl (eSs (zA (fun y=>memb y G) T0 ((c.kids.take k.1).flatMap Cr.tv))))),(8,sv (k.1:Nat))],ow:=[(2,0,2)]},
   fun k=>c.kids.length-k.1,⟨0,Nat.zero_le _⟩,⟨⟨rfl,congrArg (fun l=>SV.v (AV.sl l)) hX,rfl,rfl,trivial⟩,⟨rfl,trivial⟩,rfl⟩,?_⟩
  rintro⟨k,hk⟩;refine⟨fun h=>?_,fun h=>?_⟩
  ·have h:k<c.kids.length:=by have h:=of_decide_eq_true h;rw[zGW] at h;simp only at h;omega
   have hsz:=zBT (List.getElem_mem h);rw[hn] at hsz;simp only[if_true] at hsz;have htn:=zUE (List.getElem_mem h);have hpw:=zPH (F:=Cr.tv) (w:=Cr.tn) xY c.kids h;have hi:=ilen ((c.kids.take k).flatMap Cr.tv);refine⟨_,by omega,zJ7 h,rfl,?_⟩;refine .inr ⟨rfl,[],[],[0,0,2],_,rfl,List.nodup_nil,rfl,ih c.kids[k] G (zA (fun y=>memb y G) T0 ((c.kids.take k).flatMap Cr.tv)) (ho.kid (List.getElem_mem h)).1 (ho.kid (List.getElem_mem h)).2 (by omega) (by omega) (by omega) (by omega),?_⟩;rintro _ _ _ ⟨rfl,rfl,rfl⟩;refine⟨⟨k+1,h⟩,by simp;omega,⟨rfl,rfl,?_,svc (wrap_succ (k:=k) (by omega)),trivial⟩,⟨rfl,trivial⟩,rfl⟩;show SV.v (AV.sl (eSs (zA _ (zA _ T0 _) _)))=SV.v (AV.sl (eSs (zA _ T0 _)));rw[<-zL,qH Cr.tv h]
  have h:k=c.kids.length:=by have h:=of_decide_eq_false h;rw[zGW] at h;simp only at h;omega
  subst h;refine⟨{k:Nat // k<=c.binds.length},fun k=>{vs:=[(3,.box 0 (eC c)),(7,.v (.sl (eSs G))),(2,.v (.sl (eSs (zA (fun y=>memb y G) T0 (c.kids.flatMap Cr.tv++(c.binds.take k.1).flatMap tB))))),(9,sv (k.1:Nat))],ow:=[(2,0,2)]},
   fun k=>c.binds.length-k.1,⟨0,Nat.zero_le _⟩,⟨⟨rfl,rfl,?_,rfl,trivial⟩,⟨rfl,trivial⟩,rfl⟩,?_⟩
  ·show SV.v (AV.sl (eSs _))=SV.v (AV.sl (eSs _));rw[List.take_length,List.take_zero,List.flatMap_nil,List.append_nil]
  rintro⟨k,hk2⟩;refine⟨fun h=>?_,fun h=>?_⟩
  ·have h:k<c.binds.length:=by have h:=of_decide_eq_true h;rw[zEE] at h;simp only at h;omega
   have hsz:=jS (List.getElem_mem h);rw[hn] at hsz;simp only[if_true] at hsz;have htn:=zRF (List.getElem_mem h);have hft:(fvT c.binds[k].2.1).length<=c.binds[k].2.1.sz:=yK c.binds[k].2.1;have hpw:=zPH (F:=tB) (w:=tnB) z1Y c.binds h;have htb:tnB c.binds[k]=c.binds[k].2.1.sz+c.binds[k].2.2.tn:=rfl;have hi:=ilen (c.kids.flatMap Cr.tv++(c.binds.take k).flatMap tB);have hi2:=zJ (fun y=>memb y G) (fvT c.binds[k].2.1) (zA (fun y=>memb y G) T0 (c.kids.flatMap Cr.tv++(c.binds.take k).flatMap tB));simp only[List.length_append] at hi hi2;refine⟨_,by omega,zEG h,rfl,?_⟩;refine .inl ⟨_,zC2 c.binds[k].2.1 (by omega),?_⟩;refine .inr ⟨rfl,[],[],[0,0,2],_,rfl,List.nodup_nil,rfl,zMX (fvT c.binds[k].2.1) G (zA (fun y=>memb y G) T0 (c.kids.flatMap Cr.tv++(c.binds.take k).flatMap tB)) (by omega) (by omega) (by omega),?_⟩;rintro _ _ _ ⟨rfl,rfl,rfl⟩;refine⟨_,by omega,zEG h,rfl,?_⟩;refine .inr ⟨rfl,[],[],[0,0,2],_,rfl,List.nodup_nil,rfl,ih c.binds[k].2.2 G (zA (fun y=>memb y G) (zA (fun y=>memb y G) T0 (c.kids.flatMap Cr.tv++(c.binds.take k).flatMap tB)) (fvT c.binds[k].2.1)) (ho.bind (List.getElem_mem h)).1 (ho.bind (List.getElem_mem h)).2 (by omega) (by omega) (by omega) (by omega),?_⟩;rintro _ _ _ ⟨rfl,rfl,rfl⟩;refine⟨⟨k+1,h⟩,by simp;omega,⟨rfl,rfl,?_,svc (wrap_succ (k:=k) (by omega)),trivial⟩,⟨rfl,trivial⟩,rfl⟩;show SV.v (AV.sl (eSs (zA _ (zA _ (zA _ T0 _) _) _)))=SV.v (AV.sl (eSs (zA _ T0 _)))
   rw[<-zL,<-zL,qH tB h];simp only[List.append_assoc,tB]
  have h:k=c.binds.length:=by have h:=of_decide_eq_false h;rw[zEE] at h;simp only at h;omega
  subst h;refine⟨{k:Nat // k<=c.alts.length},fun k=>{vs:=[(3,.box 0 (eC c)),(7,.v (.sl (eSs G))),(2,.v (.sl (eSs (zA (fun y=>memb y G) T0 (c.kids.flatMap Cr.tv++(c.binds.flatMap tB++(c.alts.take k.1).flatMap tA)))))),(10,sv (k.1:Nat))],ow:=[(2,0,2)]},
   fun k=>c.alts.length-k.1,⟨0,Nat.zero_le _⟩,⟨⟨rfl,rfl,?_,rfl,trivial⟩,⟨rfl,trivial⟩,rfl⟩,?_⟩
  ·show SV.v (AV.sl (eSs _))=SV.v (AV.sl (eSs _));rw[List.take_length,List.take_zero,List.flatMap_nil,List.append_nil]
  rintro⟨k,hk3⟩;refine⟨fun h=>?_,fun h=>?_⟩
  ·have h:k<c.alts.length:=by have h:=of_decide_eq_true h;rw[zIH] at h;simp only at h;omega
   have hsz:=zBX (List.getElem_mem h);rw[hn] at hsz;simp only[if_true] at hsz;have htn:=zUF (List.getElem_mem h);have hpw:=zPH (F:=tA) (w:=tnA) z1Z c.alts h;have hta:tnA c.alts[k]=c.alts[k].2.2.tn:=rfl;have hi:=ilen (c.kids.flatMap Cr.tv++(c.binds.flatMap tB++(c.alts.take k).flatMap tA));simp only[List.length_append] at hi;refine⟨_,by omega,zGE h,rfl,?_⟩;refine .inr ⟨rfl,[],[],[0,0,2],_,rfl,List.nodup_nil,rfl,ih c.alts[k].2.2 G (zA (fun y=>memb y G) T0 (c.kids.flatMap Cr.tv++(c.binds.flatMap tB++(c.alts.take k).flatMap tA))) (ho.alt (List.getElem_mem h)).1 (ho.alt (List.getElem_mem h)).2.1 (by omega) (by omega) (by omega) (by omega),?_⟩;rintro _ _ _ ⟨rfl,rfl,rfl⟩;refine⟨⟨k+1,h⟩,by simp;omega,⟨rfl,rfl,?_,svc (wrap_succ (k:=k) (by omega)),trivial⟩,⟨rfl,trivial⟩,rfl⟩;show SV.v (AV.sl (eSs (zA _ (zA _ T0 _) _)))=SV.v (AV.sl (eSs (zA _ T0 _)));rw[<-zL,qH tA h];simp only[List.append_assoc]
  have h:k=c.alts.length:=by have h:=of_decide_eq_false h;rw[zIH] at h;simp only at h;omega
  subst h;rw[List.take_length];refine⟨?_,rfl,rfl⟩;show AV.sl (eSs _)=_;rw[hout2];rfl
theorem zX9 (N:Nat) (hN:N<900000):∀(c:Cr) (g out:List ByteArray),c.isN=true->c.Ok->c.sz<=N->c.tn<900000->g.length+c.sz<=1900000->out.length+c.tn<=1900000->zGZ c g out:=by
 induction N with
 | zero=>intro c g out hn _ hs;have:=wI hn;omega
 | succ N ih=>exact fun c g out hn ho hs ht hg hout=>zSA N c hn ho hs (by omega) ht g out hg hout (ih (by omega))
theorem zNB {c:Cr} (hn:c.isN=true) (ho:c.Ok) (hs:c.sz<900000) (ht:c.tn<900000):CallsG Tryz.prog (fnv 46) [] [eC c] [] fun r o h=>r = .sl (eSs c.tv)/\o=2/\h=[]:=by
 refine wM (first:=[]) (cap:=[]) (os:=[]) ttok mixed Tryz.func46 rfl (by rfl) (by rfl) (Nat.le_of_ble_eq_true rfl) (Nat.le_of_ble_eq_true rfl) (by kernel_rfl) ?_;refine .inr ⟨rfl,[],[],[0,0,2],_,rfl,List.nodup_nil,rfl,zX9 c.sz hs c [] [] hn ho (Nat.le_refl _) ht (by simp;omega) (by simp;omega),?_⟩;rintro _ _ _ ⟨rfl,rfl,rfl⟩;refine⟨?_,rfl,rfl⟩;show AV.sl (eSs (zA (fun y=>memb y []) [] c.tv))=_;rw[zXC _ (zYQ c),List.filter_eq_self.2 (fun y _=>by simp[memb])]
theorem zFL {c:Cr} (hn:c.isN=true) (ho:c.Ok) (hs:c.sz<900000) (ht:c.tn<900000):zC Tryz.prog zG1 [eC c] (.sl (eSs c.tv)):=zGQ (zNB hn ho hs ht)
theorem zZL (t:Tp) (h:t.sz<1000000):CallsG Tryz.prog (fnv 65) [] [eTy t] [] fun r o h=>r = .sl (eSs (fv t))/\o=2/\h=[]:=by
 refine wM (first:=[]) (cap:=[]) (os:=[]) ttok mixed Tryz.func65 rfl (by rfl) (by rfl) (Nat.le_of_ble_eq_true rfl) (Nat.le_of_ble_eq_true rfl) (by kernel_rfl) ?_;refine .inr ⟨rfl,[],[],[0,0,2],_,rfl,List.nodup_nil,rfl,zS3 t.sz h t [] [] (Nat.le_refl _) (by simp;omega) (by simp;omega),?_⟩;rintro _ _ _ ⟨rfl,rfl,rfl⟩;rw[z92];exact⟨rfl,rfl,rfl⟩
abbrev z5M (N:Nat):Prop := ∀(d:Cr) (v:ByteArray) (t:Tp),Sm d->d.sz<=N->LowT 2000 t->t.sz<=590->zC Tryz.prog 23 [eC d,str v,eTy t] (eC (stF N d v t))
theorem z8H (N:Nat) (n:Int) (s:ByteArray) (q:Cr) (v:ByteArray) (t:Tp) (hc:Sm (.node 7 n s .no (.kid q .nil))) (ht:LowT 2000 t) (hts:t.sz<=590) (hN:(Cr.node 7 n s .no (.kid q .nil)).sz<=N+1) (ih:z5M N) :
  zC Tryz.prog 23 [eC (.node 7 n s .no (.kid q .nil)),str v,eTy t] (eC (stF (N+1) (.node 7 n s .no (.kid q .nil)) v t)):=by
 have hq:Sm q:=(hc.part (p := .kid 0) rfl).1;have hqz:q.sz<=N:=by have e:(Cr.node 7 n s .no (.kid q .nil)).sz=1+(q.sz+0):=rfl;omega
 have hqs:=hq.sz;have hqt:=Nat.le_trans (zGG q) hq.wt;have htq:=xY q;have hfl:(fvT t).length<=t.sz:=yK t;have hg:(Cr.kid q .nil).tv=q.tv:=zQF;have hTy:=zFL hq.n hq.ok (by omega) (by omega);have hFr:=zC2 t (by omega);have hFF:=zZL t (by omega);have hH1:=wV (l:=q.tv) (s:=v) (by omega);have hH2:=wV (l:=fvT t) (s:=s) (by omega);have law1:(s=v∨v∉q.tv)->stF (N+1) (.node 7 n s .no (.kid q .nil)) v t = .node 7 n s .no (.kid q .nil):=fun h=>by
  rw[stF,if_pos rfl,hg,if_pos h]
 have law2:¬(s=v∨v∉q.tv)->s∈fvT t->stF (N+1) (.node 7 n s .no (.kid q .nil)) v t = .node 7 n (lett (ff (fvT t++q.tv))) .no (.kid (stF N (stF N q s (.var (lett (ff (fvT t++q.tv))))) v t) .nil):=fun h h2=>by
  rw[stF,if_pos rfl,hg,if_neg h,if_pos h2];rfl
 have law3:¬(s=v∨v∉q.tv)->s∉fvT t->stF (N+1) (.node 7 n s .no (.kid q .nil)) v t = .node 7 n s .no (.kid (stF N q v t) .nil):=fun h h2=>by
  rw[stF,if_pos rfl,hg,if_neg h,if_neg h2];rfl
 have hff:=zCP (fvT t++q.tv);rw[List.length_append] at hff;have hfr:=zI8 (fvT t++q.tv) (by rw[List.length_append];omega) (by omega);have hlow:Low 2000 (lett (ff (fvT t++q.tv))):=⟨_,by omega,rfl⟩
 generalize lett (ff (fvT t++q.tv))=z at hfr hlow law2;have hq2:=hq.st N s z hlow;have hq2z:(stF N q s (.var z)).sz=q.sz:=(jP N q s (.var z) hq.ok).1;have i1:=ih q v t hq hqz ht hts;have i2:=ih q s (.var z) hq hqz hlow (by simp[Tp.sz]);have i3:=ih (stF N q s (.var z)) v t hq2 (by omega) ht hts;generalize stF (N+1) (.node 7 n s .no (.kid q .nil)) v t=X at law1 law2 law3;have hfw:=zBS hc.n hc.ok;refine zY ttok mixed Tryz.func23 rfl (by rfl) (Nat.le_of_ble_eq_true rfl) (by kernel_rfl) ?_;refine Wsem.seq ttok mixed ?_;refine Wsem.cut {vs:=[(1,.v (str v)),(3,.box 0 (eC (.node 7 n s .no (.kid q .nil)))),(5,.box 0 (eTy t)),(6,.box 0 eZ)]} ⟨⟨rfl,rfl,rfl,rfl,trivial⟩,trivial,rfl⟩ ?_;refine Wsem.seq ttok mixed ?_;refine .inl ⟨_,hfw,?_⟩;refine⟨fun h=>absurd h (by decide),fun _=>?_⟩;refine Wsem.cut {vs:=[(1,.v (str v)),(3,.box 0 (eC (.node 7 n s .no (.kid q .nil)))),(5,.box 0 (eTy t)),(6,.box 0 eZ)]} ⟨⟨rfl,rfl,rfl,rfl,trivial⟩,trivial,rfl⟩ ?_;refine Wsem.seqS (Wsem.seq ttok mixed ?_);refine Wsem.cond rfl (fun _=>?_) (fun h=>absurd h (by simp[Cr.f]));refine Wsem.seq ttok mixed ?_;refine⟨eC q,by decide,rfl,rfl,?_⟩;refine Wsem.cut {vs:=[(1,.v (str v)),(3,.box 0 (eC (.node 7 n s .no (.kid q .nil)))),(5,.box 0 (eTy t)),(6,.box 0 eZ),(7,.box 0 (eC q))]} ⟨⟨rfl,rfl,rfl,rfl,rfl,trivial⟩,trivial,rfl⟩ ?_;refine Wsem.seqS (Wsem.seq ttok mixed ?_);refine⟨fun h1=>?_,fun h1=>?_⟩
 rotate_left
 ·have h1:s=v:=of_decide_eq_true h1;rw[law1 (.inl h1)];refine Wsem.of ttok mixed ?_;exact rfl
 have h1:¬s=v:=of_decide_eq_false h1;refine .inl ⟨_,hTy,?_⟩;refine .inl ⟨_,hH1,?_⟩;refine Wsem.cond rfl (fun h2=>?_) (fun h2=>?_)
 ·have h2:v∉q.tv:=fun hm=>by rw[memb_iff.2 hm] at h2;cases h2
  rw[law1 (.inr h2)];refine Wsem.of ttok mixed ?_;exact rfl
 have h2:v∈q.tv:=by
  cases hm:memb v q.tv with
  | true=>exact memb_iff.1 hm
  | false=>rw[hm] at h2;cases h2
 have hno:¬(s=v∨v∉q.tv):=fun h=>h.elim h1 (fun h=>h h2);refine Wsem.of ttok mixed ?_;refine Wsem.cut {vs:=[(1,.v (str v)),(3,.box 0 (eC (.node 7 n s .no (.kid q .nil)))),(5,.box 0 (eTy t)),(6,.box 0 eZ),(7,.box 0 (eC q))]} ⟨⟨rfl,rfl,rfl,rfl,rfl,trivial⟩,trivial,rfl⟩ ?_;refine Wsem.seqS (Wsem.seq ttok mixed ?_);refine .inl ⟨_,hFr,?_⟩;refine .inl ⟨_,hH2,?_⟩;refine⟨by kernel_rfl,?_⟩;refine Wsem.cond rfl (fun h3=>?_) (fun h3=>?_)
 ·have h3:s∈fvT t:=memb_iff.1 h3;have law2:=law2 hno h3;subst law2;refine Wsem.cut {vs:=[(1,.v (str v)),(3,.box 0 (eC (.node 7 n s .no (.kid q .nil)))),(5,.box 0 (eTy t)),(6,.box 0 eZ),(7,.box 0 (eC q))]} ⟨⟨rfl,rfl,rfl,rfl,rfl,trivial⟩,trivial,rfl⟩ ?_;rw[show eSs (fvT t++q.tv)=eSs (fvT t)++eSs q.tv by simp[eSs]] at hfr;refine Wsem.seqS (Wsem.regionTZ zA0 ttok mixed [0,1,2,3,4,5,6] [0,2] (by kernel_rfl) ?_);refine⟨_,_,hFF,?_⟩;refine .inl ⟨_,hTy,?_⟩;refine⟨by show (eSs (fvT t)).length+(eSs q.tv).length<=_;simp[eSs];omega,yI _,yI _,?_⟩;refine .inl ⟨_,hfr,?_⟩;refine⟨by kernel_rfl,?_⟩;refine Wsem.cut {vs:=[(1,.v (str v)),(3,.box 0 (eC (.node 7 n s .no (.kid q .nil)))),(5,.box 0 (eTy t)),(6,.box 0 eZ),(7,.box 0 (eC q)),(8,.v (str z))]} ⟨⟨rfl,rfl,rfl,rfl,rfl,rfl,trivial⟩,trivial,rfl⟩ ?_;refine Wsem.seq ttok mixed ?_;refine .inl ⟨_,i2,?_⟩;refine Wsem.of ttok mixed ?_;refine Wsem.seq ttok mixed ?_;refine .inl ⟨_,i3,?_⟩;refine Wsem.of ttok mixed ?_;exact rfl
 ·have h3:s∉fvT t:=fun hm=>by rw[memb_iff.2 hm] at h3;cases h3
  have law3:=law3 hno h3;subst law3;refine Wsem.of ttok mixed ?_;refine Wsem.seq ttok mixed ?_;refine .inl ⟨_,i1,?_⟩;refine Wsem.of ttok mixed ?_;exact rfl
abbrev eX (c:Cr) (t:Tp) (K B A:List AV):AV := .agg [.lit (.int .i64 c.f),.lit (.int .i64 c.n),.lit (.string c.s),.lit (.int .i64 t.form),.lit (.int .i64 t.num),.lit (.string t.nam),.sl t.eArgs,.sl K,.sl B,.sl A]
theorem zHF {α:Type} {f:α->AV} {l:List α} {k:Nat} (h:k<l.length):(l.take (k+1)).map f=(l.take k).map f++[f l[k]]:=by
 rw[List.take_succ_eq_append_getElem h,List.map_append];rfl
theorem z3D (N:Nat) (c:Cr) (v:ByteArray) (t:Tp) (hc:Sm c) (h7:¬c.f=7) (ht:LowT 2000 t) (hts:t.sz<=590) (hN:c.sz<=N+1) (ih:z5M N):zC Tryz.prog 23 [eC c,str v,eTy t] (eC (stF (N+1) c v t)):=by
 have hl:=xA c hc.ok;have hcs:=hc.sz;obtain⟨φ,hφ⟩:∃φ:Cr->Cr,φ=fun p=>stF N p v t:=⟨_,rfl⟩
 have hpart:∀(p:Pp) (d:Cr),yD (zH c) p=some d->zC Tryz.prog 23 [eC d,str v,eTy t] (eC (φ d)):=fun p d hd=>by
  rw[hφ];exact ih d v t (hc.part hd).1 (by have:=(hc.part hd).2;omega) ht hts
 have hres:eC (stF (N+1) c v t)=eX c (sub c.t [(v,t)]) (c.kids.map fun p=>eC (φ p)) (c.binds.map fun b=>eBd (b.1,sub b.2.1 [(v,t)],φ b.2.2)) (c.alts.map fun a=>eAl (a.1,a.2.1,φ a.2.2)):=by
  have hn:=hc.n;have ho:=hc.ok;cases c with
  | node f n s ty g =>
   obtain⟨g1,g2⟩:=zO ho;have h7:¬f=7:=h7;rw[stF,if_neg h7];subst hφ;obtain⟨G,hG⟩:∃G,G=yC (fun p=>stF N p v t) (fun u=>sub u [(v,t)]) id (fun vs p=>(vs,stF N p v t)) g:=⟨_,rfl⟩
   have k1:=zAI (φ:=fun p=>stF N p v t) (τ:=fun u=>sub u [(v,t)]) (ν:=id) (α:=fun vs p=>(vs,stF N p v t)) g1 g2;have k2:=xQ (φ:=fun p=>stF N p v t) (τ:=fun u=>sub u [(v,t)]) (ν:=id) (α:=fun vs p=>(vs,stF N p v t)) g1 g2;have k3:=zDD (φ:=fun p=>stF N p v t) (τ:=fun u=>sub u [(v,t)]) (ν:=id) (α:=fun vs p=>(vs,stF N p v t)) g1 g2;rw[<-hG] at k1 k2 k3⊢;show AV.agg [_,_,_,_,_,_,_,.sl (G.e3 0),.sl (G.e3 1),.sl (G.e3 2)]=_;rw[zN4,zHM,zF5,k1,k2,k3,eCs,yH,yT,List.map_map,List.map_map,List.map_map]
   rfl
  | _=>cases hn
 have hbt:∀b∈c.binds,Fit 2000 b.2.1 [(v,t)]:=fun b hb=>z0P ((zCA hb).2 hc.low).1 (by have:=(zCA (K:=0) hb).1;have:=hc.wt;omega) ht hts;have hct:Fit 2000 c.t [(v,t)]:=by
  cases c with
  | node f n s ty g=>exact z0P hc.low.1 (by have:=hc.wt;simp only[Cr.wt] at this;show ty.sz<=590;omega) ht hts
  | _=>have h:=hc.n;cases h
 have hfw:=zBS hc.n hc.ok;rw[hres];refine zY ttok mixed Tryz.func23 rfl (by rfl) (Nat.le_of_ble_eq_true rfl) (by kernel_rfl) ?_;refine Wsem.seq ttok mixed ?_;refine Wsem.cut {vs:=[(1,.v (str v)),(3,.box 0 (eC c)),(5,.box 0 (eTy t)),(6,.box 0 eZ)]} ⟨⟨rfl,rfl,rfl,rfl,trivial⟩,trivial,rfl⟩ ?_;refine Wsem.seq ttok mixed ?_;refine .inl ⟨_,hfw,?_⟩;refine⟨fun h=>absurd h (by decide),fun _=>?_⟩;refine Wsem.cut {vs:=[(1,.v (str v)),(3,.box 0 (eC c)),(5,.box 0 (eTy t)),(6,.box 0 eZ)]} ⟨⟨rfl,rfl,rfl,rfl,trivial⟩,trivial,rfl⟩ ?_;refine Wsem.seqS (Wsem.seq ttok mixed ?_);refine Wsem.cond rfl (fun h=>absurd (of_decide_eq_true h) h7) (fun _=>?_);refine Wsem.of ttok mixed ?_;refine Wsem.cut {vs:=[(1,.v (str v)),(3,.box 0 (eC c)),(5,.box 0 (eTy t)),(6,.box 0 eZ)]} ⟨⟨rfl,rfl,rfl,rfl,trivial⟩,trivial,rfl⟩ ?_;refine Wsem.seq ttok mixed ?_;refine .inl ⟨_,zSM (.inr hct),?_⟩;obtain⟨u,hu⟩:∃u,u=sub c.t [(v,t)]:=⟨_,rfl⟩
 rw[<-hu];refine Wsem.cut {vs:=[(1,.v (str v)),(3,.box 0 (eX c u (c.e3 0) (c.e3 1) (c.e3 2))),(5,.box 0 (eTy t)),(6,.box 0 eZ)]} ⟨⟨rfl,rfl,rfl,rfl,trivial⟩,trivial,rfl⟩ ?_;refine Wsem.seq ttok mixed ?_;refine Wsem.seq ttok mixed ?_;refine⟨{k:Nat // k<=c.kids.length},fun k=>{vs:=[(1,.v (str v)),(3,.box 0 (eX c u (c.e3 0) (c.e3 1) (c.e3 2))),(5,.box 0 (eTy t)),(6,.box 0 eZ),(9,.v (.sl ((c.kids.take k.1).map fun p=>eC (φ p)))),(10,sv (k.1:Nat))],ow:=[(9,0,11)]},
  fun k=>c.kids.length-k.1,⟨0,Nat.zero_le _⟩,⟨⟨rfl,rfl,rfl,rfl,rfl,rfl,trivial⟩,⟨trivial,trivial⟩,rfl⟩,?_⟩
 rintro⟨k,hk⟩;refine⟨fun h=>?_,fun h=>?_⟩
 ·have h:k<c.kids.length:=by have h:=of_decide_eq_true h;rw[zGW] at h;simp only at h;omega
  refine⟨_,by omega,zJ7 h,rfl,?_⟩;refine .inl ⟨_,hpart (.kid k) c.kids[k] (List.getElem?_eq_getElem h),?_⟩;refine⟨by simp;omega,fun a ha=>by obtain⟨x,_,rfl⟩:=List.mem_map.1 ha;rfl,wC rfl,?_⟩;refine⟨by kernel_rfl,?_⟩;refine⟨⟨k+1,h⟩,by simp;omega,⟨rfl,rfl,rfl,rfl,?_,svc (wrap_succ (k:=k) (by omega)),trivial⟩,⟨rfl,trivial⟩,rfl⟩;exact congrArg (fun l=>SV.v (AV.sl l)) (zHF (f:=fun p=>eC (φ p)) h).symm
 have h:k=c.kids.length:=by have h:=of_decide_eq_false h;rw[zGW] at h;simp only at h;omega
 subst h;refine Wsem.cut {vs:=[(1,.v (str v)),(3,.box 0 (eX c u (c.e3 0) (c.e3 1) (c.e3 2))),(5,.box 0 (eTy t)),(6,.box 0 eZ),(9,.v (.sl (c.kids.map fun p=>eC (φ p))))]} ⟨⟨rfl,rfl,rfl,rfl,by rw[List.take_length];rfl,trivial⟩,trivial,rfl⟩ ?_;refine Wsem.seq ttok mixed ?_;refine Wsem.seq ttok mixed ?_;refine Wsem.seq ttok mixed ?_;generalize hK:(c.kids.map fun p=>eC (φ p))=K;refine⟨{k:Nat // k<=c.binds.length},fun k=>{vs:=[(1,.v (str v)),(3,.box 0 (eX c u K (c.e3 1) (c.e3 2))),(5,.box 0 (eTy t)),(6,.box 0 eZ),(11,.v (.sl ((c.binds.take k.1).map fun b=>eBd (b.1,sub b.2.1 [(v,t)],φ b.2.2)))),(12,sv (k.1:Nat))],ow:=[(11,0,16)]},
  fun k=>c.binds.length-k.1,⟨0,Nat.zero_le _⟩,⟨⟨rfl,rfl,rfl,rfl,rfl,rfl,trivial⟩,⟨trivial,trivial⟩,rfl⟩,?_⟩
 rintro⟨k,hk⟩;refine⟨fun h=>?_,fun h=>?_⟩
 ·have h:k<c.binds.length:=by have h:=of_decide_eq_true h;rw[zEE] at h;simp only at h;omega
  have hb1:=hbt _ (List.getElem_mem h);have hp1:=hpart (.bind k) c.binds[k].2.2 (by show (c.binds[k]?).map (·.2.2)=_;rw[List.getElem?_eq_getElem h];rfl);have hg1:=zEG h;have htk:=zHF (f:=fun b:Bdg=>eBd (b.1,sub b.2.1 [(v,t)],φ b.2.2)) h;generalize c.binds[k]=d at hb1 hp1 hg1 htk;refine⟨_,by omega,hg1,rfl,?_⟩;refine .inl ⟨_,zSM (.inr hb1),?_⟩;refine .inl ⟨_,hp1,?_⟩;refine⟨by simp;omega,fun a ha=>by obtain⟨x,_,rfl⟩:=List.mem_map.1 ha;rfl,wC rfl,?_⟩;refine⟨by kernel_rfl,?_⟩;refine⟨⟨k+1,h⟩,by simp;omega,⟨rfl,rfl,rfl,rfl,?_,svc (wrap_succ (k:=k) (by omega)),trivial⟩,⟨rfl,trivial⟩,rfl⟩;exact congrArg (fun l=>SV.v (AV.sl l)) htk.symm
 have h:k=c.binds.length:=by have h:=of_decide_eq_false h;rw[zEE] at h;simp only at h;omega
 subst h;refine Wsem.cut {vs:=[(1,.v (str v)),(3,.box 0 (eX c u K (c.e3 1) (c.e3 2))),(5,.box 0 (eTy t)),(6,.box 0 eZ),(11,.v (.sl (c.binds.map fun b=>eBd (b.1,sub b.2.1 [(v,t)],φ b.2.2))))]} ⟨⟨rfl,rfl,rfl,rfl,by rw[List.take_length];rfl,trivial⟩,trivial,rfl⟩ ?_;refine Wsem.seq ttok mixed ?_;refine Wsem.seq ttok mixed ?_;refine Wsem.seq ttok mixed ?_;generalize hB:(c.binds.map fun b=>eBd (b.1,sub b.2.1 [(v,t)],φ b.2.2))=B;refine⟨{k:Nat // k<=c.alts.length},fun k=>{vs:=[(1,.v (str v)),(3,.box 0 (eX c u K B (c.e3 2))),(5,.box 0 (eTy t)),(6,.box 0 eZ),(14,.v (.sl ((c.alts.take k.1).map fun a=>eAl (a.1,a.2.1,φ a.2.2)))),(15,sv (k.1:Nat))],ow:=[(14,0,15)]},
  fun k=>c.alts.length-k.1,⟨0,Nat.zero_le _⟩,⟨⟨rfl,rfl,rfl,rfl,rfl,rfl,trivial⟩,⟨trivial,trivial⟩,rfl⟩,?_⟩
 rintro⟨k,hk⟩;refine⟨fun h=>?_,fun h=>?_⟩
 ·have h:k<c.alts.length:=by have h:=of_decide_eq_true h;rw[zIH] at h;simp only at h;omega
  have hp1:=hpart (.alt k) c.alts[k].2.2 (by show (c.alts[k]?).map (·.2.2)=_;rw[List.getElem?_eq_getElem h];rfl);have hg1:=zGE h;have htk:=zHF (f:=fun a:Alg=>eAl (a.1,a.2.1,φ a.2.2)) h;generalize c.alts[k]=d at hp1 hg1 htk;refine⟨_,by omega,hg1,rfl,?_⟩;refine .inl ⟨_,hp1,?_⟩;refine⟨by simp;omega,fun a ha=>by obtain⟨x,_,rfl⟩:=List.mem_map.1 ha;rfl,wC rfl,?_⟩;refine⟨⟨k+1,h⟩,by simp;omega,⟨rfl,rfl,rfl,rfl,?_,svc (wrap_succ (k:=k) (by omega)),trivial⟩,⟨rfl,trivial⟩,rfl⟩;exact congrArg (fun l=>SV.v (AV.sl l)) htk.symm
 have h:k=c.alts.length:=by have h:=of_decide_eq_false h;rw[zIH] at h;simp only at h;omega
 subst h;refine Wsem.cut {vs:=[(3,.box 0 (eX c u K B (c.e3 2))),(6,.box 0 eZ),(14,.v (.sl (c.alts.map fun a=>eAl (a.1,a.2.1,φ a.2.2))))]} ⟨⟨rfl,rfl,by rw[List.take_length];rfl,trivial⟩,trivial,rfl⟩ ?_;refine Wsem.of ttok mixed ?_;exact rfl
theorem z1I (N:Nat):z5M N:=by
 induction N with
 | zero=>intro d v t hd hs;have:=wI hd.n;omega
 | succ N ih =>
  intro d v t hd hs ht hts;by_cases h7:d.f=7
  ·obtain⟨n,s,q,rfl⟩:=z6A hd.ok hd.n h7;exact z8H N n s q v t hd ht hts hs ih
  ·exact z3D N d v t hd h7 ht hts hs ih
end Go.Proofs.YtgonkhaebmfgiaaGreatDoor
