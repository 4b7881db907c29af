/- The operations, one by one (seventh part): stores. No condition. -/
import Derived.Test.YtebmimnglcdogaaGreatDoorFpB
import Derived.Deep.AppendSrc
import Derived.Room.AppendOwn
import Derived.Laws.MakeOwn
set_option linter.unusedSimpArgs false
set_option linter.unusedVariables false
namespace Fp
open Go
section
variable {P:Program} {hp:Bool} {arr:Array Oper} {o:Oper} {e:Env} {k:List U->Prop} {T:TT}
theorem zOV (hT:zN P T) {t n:Nat} (h:z1T n (zF0 T t)=true) (w:World):(Go.sizeOf t).run P w = .ok n w:=by
 unfold zF0 at h;split at h
 ·rename_i m _ _ _ hf;have:=Nat.eq_of_beq_eq_true h;subst this;exact (zA1 hT hf w).2
 ·cases h
 ·rename_i h1 h2;have:=Nat.eq_of_beq_eq_true h;subst this;exact (zB6 hT (fun n offs fts z hf=>h1 _ _ _ _ hf) (fun hf=>h2 hf) w).2
theorem zD1 (hT:zN P T) {t:Nat} {a:AV} {F:Nat->Option Nat} {w:World} {v:Value} {b off:Nat} {cs:Array Value} {E:TypeId} (hn:z1T a.cells.length (zF0 T t)=true) (hv:RepCells F w v.cells.toList a.cells)
  (hb:w.heap[b]? = some (.cells cs E (0,0))) (hle:off+a.cells.length<=cs.size) :
  ∃w' cs',(Instr.storeAt t (.pointer (some ⟨b,off,none⟩)) v).run P w = .ok () w'/\Stored w w' b cs cs' E/\zIH cs off v.cells.toList cs':=by
 have hlen:=hv.1;have hone:∀u∈v.cells.toList,u.oneCell'=true:=fun u hu=>by
  obtain⟨j,hj⟩:=List.getElem?_of_mem hu;have hlt:j<a.cells.length:=by rw[<-hlen];exact (List.getElem?_eq_some_iff.1 hj).1
  obtain⟨h1,h2⟩:=hv.2 j u _ hj (List.getElem?_eq_getElem hlt);exact h1.one h2
 obtain⟨w',cs',r1,r2,r3⟩:=xE (P:=P) v.cells.toList w b off 0 cs E hb (by omega) hone;refine⟨w',cs',?_,r2,by simpa using r3⟩;have hsz:v.cells.size=a.cells.length:=by rw[<-hlen];simp
 simp only[Instr.storeAt,Instr.sureAddr,Sem.run_bind,Sem.run_pure,Result.andThen_ok,storeVar,zOV hT hn,hsz];simp only[ne_eq,not_true_eq_false,if_false,r1]
theorem zCQ {t:Nat} {x y:Operand} (ho:o.op = .store t x y) {ac:Act} {w w':World} {pv:Value} (hv:ac.eval x=pv) (hr:(Instr.storeAt t pv (ac.eval y)).run P w = .ok () w'):(execOp ac.eval o).run P w = .ok .skip w':=by
 unfold execOp;simp only[ho,hv,Sem.run_bind,hr,Result.andThen_ok,Sem.run_pure]
theorem RepCells.whole {F:Nat->Option Nat} {w:World} {cs cs':Array Value} {vs:List Value} {l:List AV} (hv:RepCells F w vs l) (hsz:cs.size=l.length) (hat:zIH cs 0 vs cs'):RepCells F w cs'.toList l:=by
 refine⟨by simp[hat.1,hsz],fun j u c hu hc=>?_⟩;have hj:j<vs.length:=by rw[hv.1];exact (List.getElem?_eq_some_iff.1 hc).1
 rw[Array.getElem?_toList,hat.2 j,if_pos (by omega)] at hu;exact hv.2 j u c hu hc
theorem RepCells.piece {F:Nat->Option Nat} {w:World} {cs cs':Array Value} {vs:List Value} {l ys:List AV} {off:Nat} (h:RepCells F w cs.toList l) (hv:RepCells F w vs ys) (hfit:off+ys.length<=l.length) (hat:zIH cs off vs cs') :
  RepCells F w cs'.toList (Fp.setAt l off ys) :=
 h.setAt hv hfit (by simp[hat.1]) (fun j=>by rw[Array.getElem?_toList,hat.2 j];simp only[Array.getElem?_toList])
theorem zEZ (e:Env) (s off:Nat):∀n,(∀s',(app e (qP s off n)).vals s'=e.vals s')/\(∀s',(app e (qP s off n)).al s'=e.al s')/\(app e (qP s off n)).heap=e.heap /\
  ∀s' c,(app e (qP s off n)).own s' c=if s'=s/\off<=c/\c<off+n then 0 else e.own s' c
 | 0=>⟨fun _=>rfl,fun _=>rfl,rfl,fun s' c=>by rw[if_neg (by omega)];rfl⟩
 | n+1=>by
  obtain⟨h1,h2,h3,h4⟩:=zEZ (app1 e (.own s (off+n) 0)) s off n;refine⟨fun s'=>h1 s',fun s'=>h2 s',h3,fun s' c=>?_⟩;show (app (app1 e (.own s (off+n) 0)) (qP s off n)).own s' c=_;rw[h4 s' c];by_cases hc:s'=s/\off<=c/\c<off+n
  ·rw[if_pos hc,if_pos (by omega)]
  ·rw[if_neg hc];by_cases hs:s'=s
   ·subst hs;by_cases hc2:c=off+n
    ·subst hc2;rw[if_pos (by omega)];simp[app1]
    ·rw[if_neg (by omega)];simp[app1,Nat.beq_ne hc2]
   ·rw[if_neg (by omega)];simp[app1,Nat.beq_ne hs]
theorem zQY (s off n:Nat) (m:Nat) (h:Sub (bO s) m):Sub (wrU (qP s off n)) m:=by
 induction n with
 | zero=>exact Sub.zero m
 | succ n ih=>exact .or h ih
theorem zR1 (hT:zN P T) {t s:Nat} {y:Operand} (ho:o.op = .store t (.tmp s) y) (hd:o.dst=none) (h:zM3 T hp arr.toList t s y e k):Does P hp arr o e k:=by
 have hs:Sub (bV s ||| (bV (rootOf arr.toList s) ||| (zJ y ||| (jD y ||| (bif hp || zI1 arr.toList s then 8 else 0))))) (rd arr.toList hp o):=by unfold rd;rw[ho];exact Sub.inr
 have hw:Sub (bV s ||| (bO s ||| (bV (rootOf arr.toList s) ||| (bO (rootOf arr.toList s) ||| (jD y ||| (bif hp || zI1 arr.toList s then 8 else 0)))))) (wr arr.toList hp o):=by unfold wr;rw[ho];exact Sub.inr
 have hsy:=hs.or_right.or_right.or_left;unfold zM3 at h;split at h
 ·rename_i a hy;split at h
  ·exact h.elim
  ·rename_i a _ _ hnt hn;have hnt':∀l,a≠.tup l:=fun l hl=>hnt l hl;have val:∀{cx:Ctx} {e':Env} {g:G} {ac:Act} {w:World},Agree (rd arr.toList hp o) e e'->Rel cx g e' ac w->Rep g.F w (ac.eval y) a/\RepCells g.F w (ac.eval y).cells.toList a.cells:=fun hag hR =>
    ⟨zF hag hR hsy hy,(zF hag hR hsy hy).cells hnt'⟩
   split at h
   ·
    rename_i g0 a0 hx;have core:∀{cx:Ctx} {e':Env} {g:G} {ac:Act} {w:World},Agree (rd arr.toList hp o) e e'->Rel cx g e' ac w->a0.cells.length=a.cells.length ->
      ∃w' b,(execOp ac.eval o).run P w = .ok .skip w'/\Rel cx g (app (app e' [.clr s]) [.val s (.box g0 a)]) ac w'/\ac.tmps.getD s undef = .pointer (some ⟨b,0,none⟩) /\
       (∀c,a.cells=[c]->w'.cell? ⟨b,0,none⟩=(ac.eval y).cells[0]?):=fun {cx e' g ac w} hag hR hlen=>by
     have hx':=hag.box hs.or_left hx;obtain⟨b,cs,E,p1,p2,p3,p4,p5,p6⟩:=hR.boxAt hx';obtain⟨v1,v2⟩:=val hag hR;have hsz:cs.size=a.cells.length:=by rw[<-hlen,<-p6.1];simp
     obtain⟨w',cs',r1,r2,r3⟩:=zD1 (off:=0) hT hn v2 p5 (by omega);refine⟨w',b,zCQ ho p1 r1,?_,p1,fun c hc=>?_⟩
     ·refine hR.setBox hx' p1 r2 (v2.whole hsz r3) (us:=[.clr s]) (fun s' c hne=>?_) (fun _=>rfl) (fun _=>rfl) rfl;simp only[app,app1] at hne⊢;by_cases hs':s'=s
      ·subst hs';simp at hne
      ·simp only[Nat.beq_ne hs',cond_false] at hne⊢;exact⟨trivial,fun h=>absurd h hs'⟩
     ·have hl:(ac.eval y).cells.toList.length=1:=by rw[v2.1,hc];rfl
      rw[World.cell_of_cells r2.now,r3.2 0,if_pos (by omega)];simp
    split at h
    ·rename_i l hb;have hl:=Nat.eq_of_beq_eq_true hb;refine⟨_,fun cx e' g ac w hdn hag hR K Q hK=>?_,?_,h⟩
     ·obtain⟨w',b,r1,r2,_⟩:=core hag hR hl;refine wp_skip r1 ?_;rw[hd];exact hK g ac w' r2
     ·simp only[wrU];exact .or hw.or_left (.or hw.or_right.or_left (Sub.zero _))
    ·rename_i a _ _ _ u hna hb;have hl:=Nat.eq_of_beq_eq_true hb;have hus:u≠s:=fun e=>by subst e;simp only[opd] at hy;rw[hx] at hy;cases hy
     refine⟨_,fun cx e' g ac w hdn hag hR K Q hK=>?_,?_,h⟩
     ·obtain⟨w',b,r1,r2,r3,r4⟩:=core hag hR hl;refine wp_skip r1 ?_;rw[hd];have hac:a.cells=[a]:=by
       cases a with
       | agg l=>exact absurd rfl (hna l)
       | _=>rfl
      obtain⟨v1,v2⟩:=val hag hR;have hvc:(ac.eval (.tmp u)).cells = #[ac.eval (.tmp u)]:=by
       have:(ac.eval (.tmp u)).oneCell'=true:=v1.one (by
        have:=(v2.cell (j:=0) (c:=a) (by rw[hac];rfl)).choose_spec.2.2;exact this)
       cases hh:ac.eval (.tmp u)<;>first|rfl|(rw[hh] at this;simp[Value.oneCell'] at this)
      obtain⟨g',q2⟩:=r2.moveOwn (s:=u) (c:=0) (d:=s) (c':=0) (fun hh=>hus hh.1) (fun v hv=>by
       have hvs:(app (app e' [.clr s]) [.val s (.box g0 a)]).vals s = .box g0 a:=zW _ _ _;rw[hvs] at hv;have hv2:=PlaceVal.box_inv hv r3;rw[r4 a hac,hvc] at hv2;simp at hv2;have hvu:(app (app e' [.clr s]) [.val s (.box g0 a)]).vals u=e'.vals u:=yQ _ _ hus;rw[hvu];have hn2:=hag.val u (hsy _ (qO u));simp only[opd] at hy;rw[hy] at hn2;cases heu:e'.vals u with
       | v a2=>exact⟨rfl,hv2⟩
       | _=>rw[heu] at hn2;cases a<;>simp[nf] at hn2)
      refine hK g' ac w' ?_;have hown:(app (app e' [.clr s]) [.val s (.box g0 a)]).own u 0=e.own u 0:=by
       simp only[app,app1,Nat.beq_ne hus,cond_false];exact (hag.own u 0 (hs.or_right.or_right.or_right.or_left _ (qW u))).symm
      have heq:app e' [.val s (.box g0 a),.clr s,.own s 0 (zOS e (.tmp u)),.own u 0 0]=app (app (app e' [.clr s]) [.val s (.box g0 a)]) [.own s 0 ((app (app e' [.clr s]) [.val s (.box g0 a)]).own u 0),.own u 0 0]:=by
       rw[hown];rfl
      rw[heq];exact q2
     ·simp only[wrU];exact .or hw.or_left (.or hw.or_right.or_left (.or hw.or_right.or_left (.or hw.or_right.or_right.or_right.or_right.or_left (Sub.zero _))))
    ·rename_i a _ _ _ hna hnt2 hb;have hl:=Nat.eq_of_beq_eq_true hb;refine⟨_,fun cx e' g ac w hdn hag hR K Q hK=>?_,?_,h⟩
     ·obtain⟨w',b,r1,r2,_⟩:=core hag hR hl;refine wp_skip r1 ?_;rw[hd];exact hK g ac w' r2
     ·simp only[wrU];exact .or hw.or_left (.or hw.or_right.or_left (Sub.zero _))
    ·exact h.elim
   ·
    rename_i s' g0 off hx;split at h
    ·rename_i g1 a0 hx' hroot;have hr:=Nat.eq_of_beq_eq_true hroot;have core:∀{cx:Ctx} {e':Env} {g:G} {ac:Act} {w:World},Agree (rd arr.toList hp o) e e'->Rel cx g e' ac w->g0=g1->off+a.cells.length<=a0.cells.length->∀us:List U,
       (∀s2 c,(app e' us).own s2 c≠0->(app e' us).own s2 c=e'.own s2 c/\(s2=s'->¬(off<=c/\c<off+a.cells.length)))->(∀s2,(app e' us).vals s2=e'.vals s2)->(∀s2,(app e' us).al s2=e'.al s2)->(app e' us).heap=e'.heap ->
       ∃w' b,(execOp ac.eval o).run P w = .ok .skip w'/\Rel cx g (app (app e' us) [.val s' (.box g1 (.agg (Fp.setAt a0.cells off a.cells)))]) ac w'/\ac.tmps.getD s' undef = .pointer (some ⟨b,0,none⟩) /\
        (∀c,a.cells=[c]->w'.cell? ⟨b,off,none⟩=(ac.eval y).cells[0]?):=fun {cx e' g ac w} hag hR hg hle us hu1 hu2 hu3 hu4=>by
      subst hg;have hx2:=hag.box (by rw[hr];exact hs.or_right.or_left) hx';obtain⟨b,cs,E,p1,p2,p3,p4,p5,p6⟩:=hR.boxAt hx2;have hsl:=hag.slot hR hs.or_left;rw[hx] at hsl;obtain⟨b',q1,q2⟩:=hsl;have:=p4 b' q2;subst this;obtain⟨v1,v2⟩:=val hag hR;have hsz:cs.size=a0.cells.length:=by rw[<-p6.1];simp
      obtain⟨w',cs',r1,r2,r3⟩:=zD1 (off:=off) hT hn v2 p5 (by omega);refine⟨w',b',zCQ ho q1 r1,?_,p1,fun c hc=>?_⟩
      ·refine hR.setBox (x' := .agg (Fp.setAt a0.cells off a.cells)) hx2 p1 r2 (p6.piece v2 hle r3) (us:=us) (fun s2 c hne=>?_) hu2 hu3 hu4;obtain⟨z1,z2⟩:=hu1 s2 c hne;refine⟨z1,fun hs2=>?_⟩;rw[r3.2 c,if_neg (by rw[v2.1];exact z2 hs2)]
      ·have hl:(ac.eval y).cells.toList.length=1:=by rw[v2.1,hc];rfl
       rw[World.cell_of_cells r2.now,r3.2 off,if_pos (by omega)];simp
     split at h
     ·rename_i l hb;rw[Bool.and_eq_true] at hb;have hg:=Nat.eq_of_beq_eq_true hb.1;have hle:=Nat.le_of_ble_eq_true hb.2;refine⟨_,fun cx e' g ac w hdn hag hR K Q hK=>?_,?_,h⟩
      ·obtain⟨o1,o2,o3,o4⟩:=zEZ e' s' off (AV.agg l).cells.length;obtain⟨w',b,r1,r2,_⟩:=core hag hR hg hle (qP s' off (AV.agg l).cells.length) (fun s2 c hne=>by
        rw[o4] at hne⊢;by_cases hc:s2=s'/\off<=c/\c<off+(AV.agg l).cells.length
        ·rw[if_pos hc] at hne;exact absurd rfl hne
        ·rw[if_neg hc];exact⟨rfl,fun h1 h2=>hc ⟨h1,h2⟩⟩) o1 o2 o3
       refine wp_skip r1 ?_;rw[hd];have heq:app e' (.val s' (.box g0 (.agg (Fp.setAt a0.cells off (AV.agg l).cells)))::qP s' off (AV.agg l).cells.length)=app (app e' (qP s' off (AV.agg l).cells.length)) [.val s' (.box g1 (.agg (Fp.setAt a0.cells off (AV.agg l).cells)))]:=by
        subst hg;obtain⟨t1,t2,t3,t4⟩:=zEZ (app1 e' (.val s' (.box g0 (.agg (Fp.setAt a0.cells off (AV.agg l).cells))))) s' off (AV.agg l).cells.length;refine Env.ext' (fun s2=>?_) (fun s2 c=>?_) (fun s2=>?_) ?_
        ·show (app (app1 e' _) _).vals s2=_;rw[t1];simp only[app,app1,zBJ,o1]
        ·show (app (app1 e' _) _).own s2 c=_;rw[t4];show _=(app e' (qP s' off (AV.agg l).cells.length)).own s2 c;rw[o4];rfl
        ·show (app (app1 e' _) _).al s2=_;rw[t2];show _=(app e' (qP s' off (AV.agg l).cells.length)).al s2;rw[o2];rfl
        ·show (app (app1 e' _) _).heap=_;rw[t3];show _=(app e' (qP s' off (AV.agg l).cells.length)).heap;rw[o3];rfl
       exact hK g ac w' (by rw[heq];exact r2)
      ·simp only[wrU];refine .or (by rw[hr];exact hw.or_right.or_right.or_left) (zQY _ _ _ _ (by rw[hr];exact hw.or_right.or_right.or_right.or_left))
     ·rename_i a _ _ _ u hna hb;rw[Bool.and_eq_true] at hb;have hg:=Nat.eq_of_beq_eq_true hb.1;have hle:=Nat.le_of_ble_eq_true hb.2;have hus:u≠s':=fun e=>by subst e;simp only[opd] at hy;rw[hx'] at hy;cases hy
      have hac:a.cells=[a]:=by
       cases a with
       | agg l=>exact absurd rfl (hna l)
       | _=>rfl
      refine⟨_,fun cx e' g ac w hdn hag hR K Q hK=>?_,?_,h⟩
      ·obtain⟨w',b,r1,r2,r3,r4⟩:=core hag hR hg hle [.own s' off 0] (fun s2 c hne=>by
        simp only[app,app1] at hne⊢;by_cases h1:s2=s'/\c=off
        ·obtain⟨rfl,rfl⟩:=h1;simp at hne
        ·have:(Nat.beq s2 s' && Nat.beq c off)=false:=by
          by_cases h2:s2=s'
          ·have:c≠off:=fun e=>h1 ⟨h2,e⟩;simp[Nat.beq_ne this]
          ·simp[Nat.beq_ne h2]
         rw[this];refine⟨rfl,fun h2 h3=>h1 ⟨h2,?_⟩⟩;rw[hac] at h3;simp at h3;omega) (fun _=>rfl) (fun _=>rfl) rfl
       refine wp_skip r1 ?_;rw[hd];obtain⟨v1,v2⟩:=val hag hR;have hvc:(ac.eval (.tmp u)).cells = #[ac.eval (.tmp u)]:=by
        have:(ac.eval (.tmp u)).oneCell'=true:=v1.one (by
         have:=(v2.cell (j:=0) (c:=a) (by rw[hac];rfl)).choose_spec.2.2;exact this)
        cases hh:ac.eval (.tmp u)<;>first|rfl|(rw[hh] at this;simp[Value.oneCell'] at this)
       obtain⟨g',q2⟩:=r2.moveOwn (s:=u) (c:=0) (d:=s') (c':=off) (fun hh=>hus hh.1) (fun v hv=>by
        have hvs:(app (app e' [.own s' off 0]) [.val s' (.box g1 (.agg (Fp.setAt a0.cells off a.cells)))]).vals s' = .box g1 (.agg (Fp.setAt a0.cells off a.cells)):=zW _ _ _;rw[hvs] at hv;have hv2:=PlaceVal.box_inv hv r3;rw[r4 a hac,hvc] at hv2;simp at hv2;have hvu:(app (app e' [.own s' off 0]) [.val s' (.box g1 (.agg (Fp.setAt a0.cells off a.cells)))]).vals u=e'.vals u:=yQ _ _ hus;rw[hvu];have hn2:=hag.val u (hsy _ (qO u));simp only[opd] at hy;rw[hy] at hn2;cases heu:e'.vals u with
        | v a2=>exact⟨rfl,hv2⟩
        | _=>rw[heu] at hn2;cases a<;>simp[nf] at hn2)
       refine hK g' ac w' ?_;have hown:(app (app e' [.own s' off 0]) [.val s' (.box g1 (.agg (Fp.setAt a0.cells off a.cells)))]).own u 0=e.own u 0:=by
        simp only[app,app1,Nat.beq_ne hus,cond_false,Bool.false_and];exact (hag.own u 0 (hs.or_right.or_right.or_right.or_left _ (qW u))).symm
       have heq:app e' [.val s' (.box g0 (.agg (Fp.setAt a0.cells off a.cells))),.own s' off (zOS e (.tmp u)),.own u 0 0]=app (app (app e' [.own s' off 0]) [.val s' (.box g1 (.agg (Fp.setAt a0.cells off a.cells)))]) [.own s' off ((app (app e' [.own s' off 0]) [.val s' (.box g1 (.agg (Fp.setAt a0.cells off a.cells)))]).own u 0),.own u 0 0]:=by
        rw[hown];subst hg;refine Env.ext' (fun _=>rfl) (fun s2 c=>?_) (fun _=>rfl) rfl;simp only[app,app1,zOS];cases (Nat.beq s2 u && Nat.beq c 0)<;>cases (Nat.beq s2 s' && Nat.beq c off)<;>rfl
       rw[heq];exact q2
      ·simp only[wrU];exact .or (by rw[hr];exact hw.or_right.or_right.or_left) (.or (by rw[hr];exact hw.or_right.or_right.or_right.or_left) (.or hw.or_right.or_right.or_right.or_right.or_left (Sub.zero _)))
     ·rename_i a y _ _ _ hna hnt2 hb;rw[Bool.and_eq_true] at hb;have hg:=Nat.eq_of_beq_eq_true hb.1;have hle:=Nat.le_of_ble_eq_true hb.2;have hac:a.cells=[a]:=by
       cases a with
       | agg l=>exact absurd rfl (hna l)
       | _=>rfl
      refine⟨_,fun cx e' g ac w hdn hag hR K Q hK=>?_,?_,h⟩
      ·obtain⟨w',b,r1,r2,r3,r4⟩:=core hag hR hg hle [.own s' off 0] (fun s2 c hne=>by
        simp only[app,app1] at hne⊢;by_cases h1:s2=s'/\c=off
        ·obtain⟨rfl,rfl⟩:=h1;simp at hne
        ·have:(Nat.beq s2 s' && Nat.beq c off)=false:=by
          by_cases h2:s2=s'
          ·have:c≠off:=fun e=>h1 ⟨h2,e⟩;simp[Nat.beq_ne this]
          ·simp[Nat.beq_ne h2]
         rw[this];refine⟨rfl,fun h2 h3=>h1 ⟨h2,?_⟩⟩;rw[hac] at h3;simp at h3;omega) (fun _=>rfl) (fun _=>rfl) rfl
       refine wp_skip r1 ?_;rw[hd];refine hK g ac w' ?_;have heq:app e' [.val s' (.box g0 (.agg (Fp.setAt a0.cells off a.cells))),.own s' off 0]=app (app e' [.own s' off 0]) [.val s' (.box g1 (.agg (Fp.setAt a0.cells off a.cells)))]:=by subst hg;rfl
       rw[heq];exact r2
      ·simp only[wrU];exact .or (by rw[hr];exact hw.or_right.or_right.or_left) (.or (by rw[hr];exact hw.or_right.or_right.or_right.or_left) (Sub.zero _))
     ·exact h.elim
    ·exact h.elim
   ·
    rename_i b off hx;obtain⟨hh0,i,l,hi,hle,hk⟩:=h;rw[hh0] at hs hw;refine⟨_,fun cx e' g ac w hdn hag hR K Q hK=>?_,?_,hk⟩
    ·have hsl:=hag.slot hR hs.or_left;rw[hx] at hsl;have hv:=(Rep.lit_eq hsl).1;have hh:=hag.heap (hs.or_right.or_right.or_right.or_right 3 (by decide));rw[hh] at hi;obtain⟨cs,E,p5,p6⟩:=hR.heapAt hi;obtain⟨v1,v2⟩:=val hag hR;have hsz:cs.size=l.length:=by rw[<-p6.1];simp
     obtain⟨w',cs',r1,r2,r3⟩:=zD1 (off:=off) hT hn v2 p5 (by omega);refine wp_skip (zCQ ho hv r1) ?_;rw[hd];refine hK g ac w' ?_;rw[hh];exact hR.setHeap hi r2 (p6.piece v2 hle r3)
    ·simp only[wrU];exact .or hw.or_right.or_right.or_right.or_right.or_right (Sub.zero _)
   ·exact h.elim
  ·exact h.elim
 ·exact h.elim
end
section
variable {P:Program} {hp:Bool} {arr:Array Oper} {o:Oper} {e:Env} {k:List U->Prop} {T:TT}
theorem zB0 {b off n cap b2:Nat} (h:zV (.slice (some ⟨b,off,none⟩) n cap)=some b2):b2=b:=by
 simp only[zV] at h;split at h
 ·cases h
 ·injection h with h;exact h.symm
theorem wL {F : Nat -> Option Nat} {w : World} {v : Value} {l : List AV} {t E esz : Nat} (ht : P.underlying t = some (.slice E)) (h : Rep F w v (.sl l)) (hu : Uni esz l) :
    ∃ news ad cap, v = .slice ad l.length cap /\ Src P esz t v l.length news w /\ (Builtin.firstCells esz l.length v).run P w.drew = .ok news.toArray w.drew /\
      (∀ (i : Nat) x (j : Nat) c, l[i]? = some x -> x.cells[j]? = some c -> ∃ u, news[i * esz + j]? = some u /\ Rep F w u c /\ c.isCell = true) := by
  obtain ⟨ad, cap, hv, hcap⟩ := h.sl_shape;subst hv;cases ad with
  | none =>
    have hl := h.sl_noneNil rfl;subst hl;refine ⟨[], none, cap, rfl, ⟨.inl ⟨E, ht⟩, fun w' => rfl, ?_, ?_, by simp, by simp⟩, ?_, fun i x j c hx => by simp at hx⟩
    all_goals simp [Builtin.firstCells]
  | some ad =>
    by_cases hq : l = []
    · subst hq
      refine ⟨[], some ad, cap, rfl, ⟨.inl ⟨E, ht⟩, fun w' => rfl, ?_, ?_, by simp, by simp⟩, ?_, fun i x j c hx => by simp at hx⟩
      all_goals simp [Builtin.firstCells, loadCells, loadCellsFrom]
    obtain ⟨b, off, rfl⟩ := (Rep.sl_addr h (ad := ad) rfl).resolve_right hq;obtain ⟨cs, r1, r2, r3, r4⟩ := zEI (P := P) h hu rfl;have f : ∀ w' : World, (∀ k, w'.cell? ⟨b, k, none⟩ = w.cell? ⟨b, k, none⟩) -> (Builtin.firstCells esz l.length (.slice (some ⟨b, off, none⟩) l.length cap)).run P w' = .ok cs.toList.toArray w' := fun w' hw' => by
      simp only [Builtin.firstCells, r1 w' hw', Array.toArray_toList]
    refine ⟨cs.toList, _, cap, rfl, ⟨.inl ⟨E, ht⟩, fun w' => rfl, f w (fun _ => rfl), f w.drew (fun _ => rfl), by simp [r2], fun u hu' => ?_⟩, f w.drew (fun _ => rfl), fun i x j c hx hj => by
      obtain ⟨u, q1, q2, q3⟩ := r4 i x j c hx hj;exact ⟨u, by rw [Array.getElem?_toList]; exact q1, q2, q3⟩⟩
    obtain ⟨p, hp'⟩ := List.getElem?_of_mem hu';have hlt : p < l.length * esz := by rw [<- r2, <- Array.length_toList]; exact (List.getElem?_eq_some_iff.1 hp').1
    have hs0 : 0 < esz := by rcases Nat.eq_zero_or_pos esz with h | h; · subst h; simp at hlt
                             · exact h
    have hi : p / esz < l.length := Nat.div_lt_of_lt_mul (by rw [Nat.mul_comm]; exact hlt);have hx := List.getElem?_eq_getElem hi;have hj : p % esz < l[p / esz].cells.length := by rw [hu _ (List.getElem_mem hi)]; exact Nat.mod_lt _ hs0
    obtain ⟨u2, q1, q2, q3⟩ := r4 _ _ _ _ hx (List.getElem?_eq_getElem hj);have : p / esz * esz + p % esz = p := by rw [Nat.mul_comm]; exact Nat.div_add_mod p esz
    rw [this, <- Array.getElem?_toList, hp'] at q1;injection q1 with q1
    subst q1;exact q2.one q3
theorem Rel.bump {cx : Ctx} {g : G} {a : Act} {w w' : World} (h : Rel cx g e a w) {b : Nat} {cs cs' : Array Value} {E : TypeId} (st : Stored w w' b cs cs' E) {m m' s d : Nat} (hF : g.F b = some m) (hm : m <= m')
    (hcs : ∀ j, j < m -> cs'[j]? = cs[j]?) (hO : g.O b = .tip s 0) (hno : e.own s 0 = 0) :
    Rel cx { F := fun j => if j = b then some m' else g.F j, O := fun j => if j = b then .tip d 0 else g.O j } e a w' := by
  have hlt := zL st.was;have kp : Keeps g.F w (fun j => if j = b then some m' else g.F j) w' := st.keeps (fun k hk => by simp [hk]) (fun k u hc hu => by
    have hk := hc m hF;refine ⟨by rw [hcs k hk]; exact hu, fun q hq => ?_⟩;simp at hq; omega)
  have mm : Mem g w { F := fun j => if j = b then some m' else g.F j, O := fun j => if j = b then .tip d 0 else g.O j } w' := by
    refine ⟨kp, fun b2 s2 q hb => ?_, fun b2 s2 q hb => ?_⟩
    · have hne : b2 ≠ b := fun e => by subst e; rw [hO] at hb; cases hb
      simp only [hne, if_false];exact ⟨hb, trivial, st.block b2 hne⟩
    · by_cases hne : b2 = b
      · simp only [hne, if_true] at hb; cases hb
      · simp only [hne, if_false] at hb; exact .inl hb
  have hin : b < cx.W.heap.size -> b ∈ cx.yk := fun hb => by
    by_cases h2 : b ∈ cx.yk
    · exact h2
    · rcases h.old b hb h2 with h3 | ⟨_, h3⟩
      · rw [hO] at h3; cases h3
      · rw [hO] at h3; cases h3
  refine { size := h.size, defers := h.defers, kept := h.kept.stored st (fun hb => .inr ⟨hin hb, ?_⟩), fext := fun j hj => ?_, nbx := fun j s2 q hj ho => by (by_cases hne : j = b; (subst hne; simp only [if_true] at ho; cases ho); simp only [hne, if_false] at ho; exact h.nbx j s2 q hj ho), old := fun j hj h1 => ?_, hkO := h.hkO, hkin := fun j hj ho => ?_, fresh := fun j hj => ?_, freshO := fun j hj => ?_,
           slots := fun s2 => (h.slots s2).mem mm, own := fun s2 c sz v ho hpv => ?_, heap := ?_, heapO := fun j hj => ?_, al := fun j s2 hj => ?_ }
  · rcases h.fext b hb with h3 | ⟨_, m1, m2, h3, h4, h5⟩
    · exact ⟨m, by rw [<- h3, hF], hcs⟩
    · rw [hF] at h4; injection h4 with h4; subst h4
      exact ⟨m1, h3, fun j hj => hcs j (by omega)⟩
  · by_cases hjb : j = b
    · subst hjb
      simp only [if_true];rcases h.fext j hj with h3 | ⟨h3, m1, m2, h4, h5, h6⟩
      · exact .inr ⟨hin hj, m, m', by rw [<- h3, hF], rfl, hm⟩
      · rw [hF] at h5; injection h5 with h5; subst h5
        exact .inr ⟨h3, m1, m', h4, rfl, by omega⟩
    · simp only [hjb, if_false]; exact h.fext j hj
  · have hne : j ≠ b := fun e => by subst e; exact h1 (hin hj)
    simp only [hne, if_false]; exact h.old j hj h1
  · by_cases hne : j = b
    · simp only [hne, if_true] at ho; cases ho
    · simp only [hne, if_false] at ho; exact h.hkin j hj ho
  · have hne : j ≠ b := fun e => by subst e; rw [st.size] at hj; omega
    simp only [hne, if_false]; exact h.fresh j (by rw [<- st.size]; exact hj)
  · have hne : j ≠ b := fun e => by subst e; rw [st.size] at hj; omega
    simp only [hne, if_false]; exact h.freshO j (by rw [<- st.size]; exact hj)
  · have ht := h.own s2 c sz v ho (PlaceVal.back h (fun b2 s3 q hb => (mm.box b2 s3 q hb).2.2) hpv)
    have hnb : ∀ b2, zV v = some b2 -> b2 ≠ b := fun b2 hb he => by
      subst he;have := ht.2 b2 hb;rw [hO] at this;injection this with e1 e2
      subst e1; subst e2;rw [hno] at ho; cases ho
    refine ⟨?_, fun b2 hb => by simp only [hnb b2 hb, if_false]; exact ht.2 b2 hb⟩;rcases ht.1 with h3 | h3 | ⟨b2, off, n, cap, cs2, E2, q1, q2, q3, q4, q5⟩
    · exact .inl h3
    · exact .inr (.inl h3)
    · by_cases hn : n = cap
      · exact .inr (.inl ⟨some ⟨b2, off, none⟩, n, by rw [q1, hn]⟩)
      · have hne := hnb b2 (by rw [q1]; simp [zV, hn])
        exact .inr (.inr ⟨b2, off, n, cap, cs2, E2, q1, q2, by simp only [hne, if_false]; exact q3, by rw [st.block b2 hne]; exact q4, q5⟩)
  · have hne : ∀ j ∈ keys e.heap, j ≠ b := fun j hj he => by subst he; have := h.heapO j hj; rw [hO] at this; cases this
    exact ⟨h.heap.nodup, fun j hj => by simp only [hne j hj, if_false]; exact h.heap.shut j hj, fun x hx => (h.heap.ok x hx).grow kp (fun _ => st.block _ (hne x.1 (List.mem_map.2 ⟨x, hx, rfl⟩)))⟩
  · have := h.heapO j hj
    have hne : j ≠ b := fun e => by subst e; rw [hO] at this; cases this
    simp only [hne, if_false]; exact this
  · by_cases hne : j = b
    · simp only [hne, if_true] at hj; cases hj
    · simp only [hne, if_false] at hj; exact h.al j s2 hj
theorem zI9 {F:Nat->Option Nat} {w:World} {b off n m cap esz:Nat} {l mm:List AV} {cs:Array Value} {E:TypeId} {fr:Nat×Nat} (hb:w.heap[b]? = some (.cells cs E fr)) (hn:l.length=n) (hm:mm.length=m) (hc:n+m<=cap)
  (hu1:Uni esz l) (hu2:Uni esz mm) (hcom:∀k,k<(n+m)*esz->com F b (off+k))
  (h1:∀(i:Nat) x (j:Nat) c,l[i]? = some x->x.cells[j]? = some c->∃u,cs[off+(i*esz+j)]? = some u/\Rep F w u c/\c.isCell=true)
  (h2:∀(i:Nat) x (j:Nat) c,mm[i]? = some x->x.cells[j]? = some c->∃u,cs[off+(n*esz+(i*esz+j))]? = some u/\Rep F w u c/\c.isCell=true) :
  Rep F w (.slice (some ⟨b,off,none⟩) (n+m) cap) (.sl (l++mm)):=by
 refine Rep.sl_mk hb (by simp[hn,hm]) hc (fun x hx=>(List.mem_append.1 hx).elim (hu1 x) (hu2 x)) hcom (fun i x j c hx hj=>?_);rcases Nat.lt_or_ge i l.length with hi|hi
 ·rw[List.getElem?_append_left hi] at hx;exact h1 i x j c hx hj
 ·rw[List.getElem?_append_right hi] at hx;obtain⟨u,q1,q2,q3⟩:=h2 (i-l.length) x j c hx hj;refine⟨u,?_,q2,q3⟩;have:i*esz+j=n*esz+((i-l.length)*esz+j):=by
   rw[<-Nat.add_assoc,<-Nat.add_mul];congr 2;omega
  rw[this];exact q1
theorem zHL {cx:Ctx} {g:G} {e':Env} {ac:Act} {w:World} (hR:Rel cx g e' ac w) {d:Nat} (hd:d<cx.n) {t E esz ty:Nat} {i:TypeInfo} {z:Value} (ht:P.underlying t=some (.slice E)) (hi:P.info? E=some i) (hz:i.zero=some z)
  (hsz:i.size=esz) (hzs:z.cells.size=esz) (hb:i.bytes<=32768) {ad:Option Addr} {cap:Nat} {xv:Value} {l mm:List AV} (hl:Rep g.F w (.slice ad l.length cap) (.sl l)) (hm:Rep g.F w xv (.sl mm)) (hu1:Uni esz l) (hu2:Uni esz mm)
  (hbig:l.length+mm.length<=4294967296) (hg:cap<l.length+mm.length) :
  ∃v' w' g',(Builtin.append_ #[t,t] ty #[.slice ad l.length cap,xv]).run P w = .ok v' w'/\Rel cx g' (app e' [.val d (.v (.sl (l++mm))),.clr d,.own d 0 (esz+1)]) (ac.put (some d) v') w':=by
 subst hsz;obtain⟨olds,ad1,cap1,hv1,s1,f1,r1⟩:=wL ht hl hu1;obtain⟨news,ad2,cap2,hv2,s2,f2,r2⟩:=wL ht hm hu2;have hfit:Builtin.nextslicecap (l.length+mm.length) cap*i.bytes<=281474976710656:=growslice_fits hg (by
  have:(l.length+mm.length)*i.bytes<=4294967296*32768:=Nat.mul_le_mul hbig hb;omega)
 have hrun:=run_append_grow_src (P:=P) w t t ty E i z ht hi hz ad l.length cap olds f1 xv mm.length news s2 hg (by omega) hfit;have hcap':l.length+mm.length<=grownCap w (l.length+mm.length) cap E:=grownCap_ge w _ _ _;have hcells:((olds++news).toArray++Builtin.zeroCells z.cells (grownCap w (l.length+mm.length) cap E-(l.length+mm.length))).size=grownCap w (l.length+mm.length) cap E*i.size:=by
  have h1:=s1.newsLen;have h2:=s2.newsLen;simp only[Array.size_append,List.size_toArray,List.length_append,h1,h2,Builtin.zeroCells,Array.size_map,Array.size_range,hzs];rw[<-Nat.add_mul,<-Nat.add_mul];congr 1;omega
 have hgr:Grow w (w.drew.alloc (.cells ((olds++news).toArray++Builtin.zeroCells z.cells (grownCap w (l.length+mm.length) cap E-(l.length+mm.length))) E)):=(Grow.drew w).trans (Grow.alloc w.drew _);have hnew:=World.heap_alloc_new w.drew (.cells ((olds++news).toArray++Builtin.zeroCells z.cells (grownCap w (l.length+mm.length) cap E-(l.length+mm.length))) E);have h1:=hR.extend hgr (b0:=w.heap.size) (Nat.le_refl _) (zL hnew) (some ((l.length+mm.length)*i.size)) (.tip d 0) (fun s q h=>by cases h);have hlt:∀b,b<w.heap.size->b≠w.heap.size:=fun b hb he=>by omega
 have kp:Keeps g.F w (fun b=>if b=w.heap.size then some ((l.length+mm.length)*i.size) else g.F b) (w.drew.alloc (.cells ((olds++news).toArray++Builtin.zeroCells z.cells (grownCap w (l.length+mm.length) cap E-(l.length+mm.length))) E)) :=
  hgr.keeps (fun b hb=>by simp[hlt b hb])
 have hrep:Rep (fun b=>if b=w.heap.size then some ((l.length+mm.length)*i.size) else g.F b) (w.drew.alloc (.cells ((olds++news).toArray++Builtin.zeroCells z.cells (grownCap w (l.length+mm.length) cap E-(l.length+mm.length))) E))
   (.slice (some ⟨w.heap.size,0,none⟩) (l.length+mm.length) (grownCap w (l.length+mm.length) cap E)) (.sl (l++mm)):=by
  refine zI9 hnew rfl rfl hcap' hu1 hu2 (fun k hk q hq=>by simp at hq;omega) (fun i1 x j c hx hj=>?_) (fun i1 x j c hx hj=>?_)
  ·obtain⟨u,q1,q2,q3⟩:=r1 i1 x j c hx hj;refine⟨u,?_,q2.mono kp,q3⟩;have hlt:=(List.getElem?_eq_some_iff.1 q1).1;rw[Nat.zero_add,Array.getElem?_append_left (by simp;omega),List.getElem?_toArray,List.getElem?_append_left hlt];exact q1
  ·obtain⟨u,q1,q2,q3⟩:=r2 i1 x j c hx hj;refine⟨u,?_,q2.mono kp,q3⟩;have hlt:=(List.getElem?_eq_some_iff.1 q1).1;have h1:=s1.newsLen;rw[Nat.zero_add,Array.getElem?_append_left (by simp;omega),List.getElem?_toArray,List.getElem?_append_right (by omega),h1];rw[Nat.add_sub_cancel_left];exact q1
 refine⟨_,_,_,hrun,(h1.put hd (x := .v (.sl (l++mm))) hrep).setOwn d 0 (i.size+1) (fun sz v he hv=>?_)⟩;have:(app e' [.val d (.v (.sl (l++mm))),.clr d]).vals d = .v (.sl (l++mm)):=zW _ _ _;rw[this] at hv;have hv:=hv.2;rw[yK (by rw[hR.size];exact hd)] at hv;subst hv;have hsz:i.size=sz:=by omega
 subst hsz;refine⟨.inr (.inr ⟨_,0,_,_,_,_,rfl,hcap',by simp,hnew,by rw[hcells];omega⟩),fun b hb=>?_⟩;have hb:=zB0 hb;subst hb;simp
theorem zSO {cx:Ctx} {g:G} {e':Env} {ac:Act} {w:World} (hR:Rel cx g e' ac w) {d s:Nat} (hd:d<cx.n) (hne:s≠d) {t E esz ty:Nat} {i:TypeInfo} {z:Value} (ht:P.underlying t=some (.slice E)) (hi:P.info? E=some i) (hz:i.zero=some z)
  (hsz:i.size=esz) (hzs:z.cells.size=esz) (hb:i.bytes<=32768) {a:AV} {sv xv:Value} {l mm:List AV} (hs:nf (e'.vals s)=nf (.v a)) (hsv:ac.tmps.getD s undef=sv) (hl:Rep g.F w sv (.sl l)) (hm:Rep g.F w xv (.sl mm)) (hu1:Uni esz l) (hu2:Uni esz mm)
  (hown:e'.own s 0=esz+1) (hbig:l.length+mm.length<=4294967296) :
  ∃v' w' g',(Builtin.append_ #[t,t] ty #[sv,xv]).run P w = .ok v' w'/\Rel cx g' (app e' [.val d (.v (.sl (l++mm))),.clr d,.own d 0 (esz+1),.own s 0 0]) (ac.put (some d) v') w':=by
 have hplace:PlaceVal ac w (e'.vals s) s 0 sv:=by
  cases hx:e'.vals s with
  | v a2=>exact⟨rfl,hsv⟩
  | _=>rw[hx] at hs;cases a<;>simp[nf] at hs
 have htip:=hR.own s 0 esz sv hown hplace;obtain⟨ad,cap,rfl,hcap⟩:=hl.sl_shape;by_cases hg:cap<l.length+mm.length
 ·obtain⟨v',w',g',r1,r2⟩:=zHL (P:=P) (ty:=ty) hR hd ht hi hz hsz hzs hb hl hm hu1 hu2 hbig hg;exact⟨v',w',g',r1,r2.setOwn s 0 0 (fun sz v h=>by cases h)⟩
 ·obtain⟨news,ad2,cap2,hv2,s2,f2,r2⟩:=wL ht hm hu2;by_cases hm0:mm.length=0
  ·
   have hmm:mm=[]:=List.eq_nil_of_length_eq_zero hm0;subst hmm;have hnews:news=[]:=by have:=s2.newsLen;simpa using this
   subst hnews;refine⟨.slice ad l.length cap,w,?_⟩;have hrun:(Builtin.append_ #[t,t] ty #[.slice ad l.length cap,xv]).run P w = .ok (.slice ad l.length cap) w:=by
    subst hsz;have hc:=s2.cells;have hln:=s2.len;simp only[List.length_nil] at hc hln;cases ad<;>simp[Builtin.append_,run_underlying ht,xO hi,hln,hcap,hc,storeCells]
   have h1:=hR.put hd (x := .v (.sl (l++[]))) (v := .slice ad l.length cap) (by rw[List.append_nil];exact hl);obtain⟨g',h2⟩:=h1.moveOwn (s:=s) (c:=0) (d:=d) (c':=0) (fun hh=>hne hh.1) (fun v hv=>by
    have hvd:(app e' [.val d (.v (.sl (l++[]))),.clr d]).vals d = .v (.sl (l++[])):=zW _ _ _;rw[hvd] at hv;have hv:=hv.2;rw[yK (by rw[hR.size];exact hd)] at hv;have hvs:(app e' [.val d (.v (.sl (l++[]))),.clr d]).vals s=e'.vals s:=yQ _ _ hne;rw[hvs];cases hx:e'.vals s with
    | v a2=>exact⟨rfl,by rw[qH hne,hsv];exact hv⟩
    | _=>rw[hx] at hs;cases a<;>simp[nf] at hs)
   refine⟨g',hrun,?_⟩;have:(app e' [.val d (.v (.sl (l++[]))),.clr d]).own s 0=esz+1:=by
    simp only[app,app1,Nat.beq_ne hne,cond_false];exact hown
   rw[this] at h2;exact h2
  ·
   have hlt:l.length≠cap:=by omega
   rcases htip.1 with h3|⟨a3,n3,h3⟩|⟨b,off,n,cap3,cs,E2,q1,q2,q3,q4,q5⟩
   ·injection h3 with _ h4 h5;omega
   ·injection h3 with _ h4 h5;omega
   ·injection q1 with e1 e2 e3
    subst e1;subst e2;subst e3;have hO:=htip.2 b (by simp[zV,hlt]);subst hsz;have hnl:=s2.newsLen;have hle:off+l.length*i.size+mm.length*i.size<=cs.size:=by
     have:(l.length+mm.length)*i.size<=cap*i.size:=Nat.mul_le_mul_right _ (by omega);rw[Nat.add_mul] at this;omega
    obtain⟨w',cs',r1,st,hat⟩:=xE (P:=P) news w b (off+l.length*i.size) 0 cs E2 q4 (by omega) s2.one;simp only[Nat.add_zero] at hat;have hrun:(Builtin.append_ #[t,t] ty #[.slice (some ⟨b,off,none⟩) l.length cap,xv]).run P w = .ok (.slice (some ⟨b,off,none⟩) (l.length+mm.length) cap) w':=by
     have hc:=s2.cells;have hln:=s2.len;have hroom:l.length+mm.length<=cap:=by omega
     simp[Builtin.append_,run_underlying ht,xO hi,hln,hroom,hc,Addr.add_at,r1]
    have h0:=hR.setOwn s 0 0 (fun sz v h=>by cases h);have h1:=h0.bump (d:=d) st q3 (m':=off+(l.length+mm.length)*i.size) (by rw[Nat.add_mul];omega) (fun j hj=>by rw[hat.2 j,if_neg (by omega)]) hO (by simp[app,app1]);have kp:Keeps g.F w (fun j=>if j=b then some (off+(l.length+mm.length)*i.size) else g.F j) w':=st.keeps (fun k hk=>by simp[hk]) (fun k u hc hu=>by
     have hk:=hc _ q3;refine⟨by rw[hat.2 k,if_neg (by omega)];exact hu,fun q hq=>?_⟩;simp at hq;rw[Nat.add_mul] at hq;omega)
    have hrep:Rep (fun j=>if j=b then some (off+(l.length+mm.length)*i.size) else g.F j) w' (.slice (some ⟨b,off,none⟩) (l.length+mm.length) cap) (.sl (l++mm)):=by
     refine zI9 st.now rfl rfl (by omega) hu1 hu2 (fun k hk q hq=>by simp at hq;omega) (fun i1 x j c hx hj=>?_) (fun i1 x j c hx hj=>?_)
     ·obtain⟨b2,off2,cap2,us,hv,hcell⟩:=hl.sl_elem hx;injection hv with e1 _ _
      injection e1 with e1;injection e1 with e1 e2
      subst e1;subst e2;obtain⟨c1,c2,c3,c4⟩:=hcell j c hj;rw[hu1 x (List.mem_of_getElem? hx)] at c1 c2;have hk:=c2 _ q3;have:=(kp.cell _ _ _ c1 c2).1;rw[World.cell_of_cells st.now] at this;exact⟨us j,this,c3.mono kp,c4⟩
     ·obtain⟨u,u1,u2,u3⟩:=r2 i1 x j c hx hj;have hlt2:=(List.getElem?_eq_some_iff.1 u1).1;refine⟨u,?_,u2.mono kp,u3⟩;rw[hat.2,if_pos (by omega)];rw[<-u1];congr 1;omega
    have h2:=(h1.put hd (x := .v (.sl (l++mm))) hrep).setOwn d 0 (i.size+1) (fun sz v he hv=>by
     have:(app (app e' [.own s 0 0]) [.val d (.v (.sl (l++mm))),.clr d]).vals d = .v (.sl (l++mm)):=zW _ _ _;rw[this] at hv;have hv:=hv.2;rw[yK (by rw[hR.size];exact hd)] at hv;subst hv;have hsz:i.size=sz:=by omega
     subst hsz;refine⟨.inr (.inr ⟨b,off,_,cap,cs',E2,rfl,by omega,by simp,st.now,by rw[st.len];exact q5⟩),fun b2 hb2=>?_⟩;have hb2:=zB0 hb2;subst hb2;simp)
    have heq:app e' [.val d (.v (.sl (l++mm))),.clr d,.own d 0 (i.size+1),.own s 0 0]=app (app (app e' [.own s 0 0]) [.val d (.v (.sl (l++mm))),.clr d]) [.own d 0 (i.size+1)]:=by
     refine Env.ext' (fun _=>rfl) (fun s2 c2=>?_) (fun _=>rfl) rfl;simp only[app,app1];by_cases h1:s2=s
     ·subst h1;simp only[Nat.beq_ne hne,Bool.false_and,cond_false]
     ·simp only[Nat.beq_ne h1,Bool.false_and,cond_false]
    exact⟨_,w',_,hrun,by rw[heq];exact h2⟩
theorem zP1 (hT:zN P T) {c:Call} (ho:o.op = .call c) (hc:c.callee = .builtin .append) {x y:Operand} {t:Nat} (hts:c.argTypes.toList=[t,t]) (hx:c.args.toList=[x,y]) (h:zIN T o t x y e k):Does P hp arr o e k:=by
 have hs0:Sub (zG c.args.toList ||| zKP .append c.args.toList) (rd arr.toList hp o):=by
  unfold rd;rw[ho];simp only[hc];exact Sub.inr
 have hw0:Sub (yI o.dst ||| zKP .append c.args.toList) (wr arr.toList hp o):=by
  unfold wr;rw[ho];simp only[hc];exact Sub.refl _
 have hs:=hs0.or_left;rw[hx] at hs;simp only[zG] at hs;have ha:=qK hx;have ht:=qM hts;unfold zIN at h;split at h
 ·rename_i E esz a b d hf hxa hyb hd;have hk:=find_ok hT t;rw[hf] at hk;obtain⟨it,i,z,k1,k2,k3,k4,k5,k6,k7,k8,k9,k10,k11,k12⟩:=hk;have exec:∀(ac:Act) w v' w',(Builtin.append_ #[t,t] o.type #[ac.eval x,ac.eval y]).run P w = .ok v' w'->(execOp ac.eval o).run P w = .ok (.value v') w':=fun ac w v' w' hr=>by
   obtain⟨cs,hex⟩:=yH (ρ:=ac.eval) ho hc;rw[hex,ha,ht];simp only[builtin,List.map_toArray,List.map_cons,List.map_nil,Sem.run_bind,hr,Result.andThen_ok,Sem.run_pure]
  split at h
  ·
   rename_i l m hwb hwa;obtain⟨h1,h2,h3,hkk⟩:=h;refine⟨_,fun cx e' g ac w hdn hag hR K Q hK=>?_,?_,hkk⟩
   ·have hl:l=[]:=by
     have:wk AV.nil=AV.sl []:=rfl;rw[this] at hwa;injection hwa with hwa;exact hwa.symm
    subst hl;have hv:=(zF hag hR hs.or_left hxa).nil_eq;have hm:=wG (zF hag hR hs.or_right.or_left hyb);rw[hwb] at hm;rcases Nat.eq_zero_or_pos m.length with h0|h0
    ·have hmm:m=[]:=List.eq_nil_of_length_eq_zero h0;subst hmm;obtain⟨news,ad2,cap2,hv2,s2,_,_⟩:=wL k1 hm h3;have hnews:news=[]:=by have:=s2.newsLen;simpa using this
     subst hnews;have hrun:(Builtin.append_ #[t,t] o.type #[ac.eval x,ac.eval y]).run P w = .ok (.slice none 0 0) w:=by
      have hcl:=s2.cells;have hln:=s2.len;simp only[List.length_nil] at hcl hln;rw[hv];simp[Builtin.append_,run_underlying k1,xO k5,k6,hln,hcl]
     refine zU (exec ac w _ _ hrun) ?_;rw[hd];refine hK g _ _ ((hR.put (hdn d hd) (x := .v (.sl ([]++[]))) (v := .slice none 0 0) (show Rep g.F w (.slice none 0 0) (.sl ([]++[])) from .slNil)).setOwn d 0 (esz+1) (fun sz v he hv=>?_));have:(app e' [.val d (.v (.sl ([]++[]))),.clr d]).vals d = .v (.sl ([]++[])):=zW _ _ _;rw[this] at hv;have hv:=hv.2;rw[yK (by rw[hR.size];exact hdn d hd)] at hv;subst hv;exact⟨.inl rfl,fun b hb=>by simp[zV] at hb⟩
    ·obtain⟨v',w',g',r1,r2⟩:=zHL (P:=P) (ty:=o.type) hR (hdn d hd) k1 k5 k7 k6 k8 k12 (ad:=none) (cap:=0) (l:=[]) .slNil hm h2 h3 h1 (by simpa using h0);refine zU (exec ac w v' w' (by rw[hv];exact r1)) ?_;rw[hd];exact hK g' _ _ r2
   ·have h1:=hw0.or_left;rw[hd] at h1;simp only[wrU];exact .or h1.or_left (.or h1.or_right (.or h1.or_right (Sub.zero _)))
  ·rename_i l m hna hwb hwa;split at h
   ·rename_i s;split at h
    ·rename_i hsd hown;have hne:s≠d:=fun e=>by subst e;simp at hsd
     have hown:=Nat.eq_of_beq_eq_true hown;obtain⟨h1,h2,h3,hkk⟩:=h;have hso:Sub (bO s) (rd arr.toList hp o):=by
      have:=hs0.or_right;rw[hx] at this;simp only[zKP,zCC,jD] at this;exact this.or_left
     refine⟨_,fun cx e' g ac w hdn hag hR K Q hK=>?_,?_,hkk⟩
     ·have hl:=wG (zF hag hR hs.or_left hxa);rw[hwa] at hl;have hm:=wG (zF hag hR hs.or_right.or_left hyb);rw[hwb] at hm;have hsn:=hag.val s (hs.or_left _ (qO s));simp only[opd] at hxa;rw[hxa] at hsn;obtain⟨v',w',g',r1,r2⟩:=zSO (P:=P) (ty:=o.type) hR (hdn d hd) hne k1 k5 k7 k6 k8 k12 hsn.symm rfl hl hm h2 h3 (by rw[<-hag.own s 0 (hso _ (qW s))];exact hown) h1;refine zU (exec ac w v' w' r1) ?_;rw[hd];exact hK g' _ _ r2
     ·have h1:=hw0.or_left;have h2:=hw0.or_right;rw[hd] at h1;rw[hx] at h2;simp only[zKP,zCC,jD] at h2;simp only[wrU];exact .or h1.or_left (.or h1.or_right (.or h1.or_right (.or h2.or_left (Sub.zero _))))
    ·exact h.elim
   ·exact h.elim
  ·exact h.elim
 ·exact h.elim
end
section
variable {P:Program} {hp:Bool} {arr:Array Oper} {o:Oper} {e:Env} {k:List U->Prop} {T:TT}
theorem HoOk.lt {F:Nat->Option Nat} {w:World} {b:Nat} {o:HO} (h:HoOk F w b o):b<w.heap.size:=by
 cases o with
 | cells l=>obtain⟨cs,E,h1,_⟩:=h;exact zL h1
 | mp l=>obtain⟨cs,E,h1,_⟩:=h;exact zL h1
 | it l seen=>obtain⟨m,es,cl,st,h1,_⟩:=h;exact zL h1
 | raw p=>obtain⟨o,h1,_⟩:=h;exact zL h1
theorem Kept.keeps {F F':Nat->Option Nat} {hk yk:List Nat} {w w':World} (h:Kept F hk yk w w') (hx:zWF F F' w yk) (h0:∀b∈hk,F b=some 0):Keeps F w F' w':=by
 have cmt:∀b k,b<w.heap.size->com F b k->com F' b k:=fun b k hb hm=>by
  rcases hx b hb with h1|⟨_,m,m',h1,h2,h3⟩
  ·intro m q;exact hm m (by rw[<-h1];exact q)
  ·intro q hq;rw[h2] at hq;injection hq with hq;have:=hm m h1;omega
 refine⟨fun b k u hc hm=>?_,fun b es c hc hm=>?_⟩
 ·have hb:=World.lt_of_cell hc;refine⟨?_,cmt b k hb hm⟩;rcases h.block b hb with h1|⟨_,cs,cs',E,m,q1,q2,_,q4,q5⟩|h1
  ·have:=hm 0 (h0 b h1);omega
  ·rw[World.cell_of_cells q1] at hc;rw[World.cell_of_cells q2,q5 k (hm m q4)];exact hc
  ·rw[World.cell_of_heap h1];exact hc
 ·have hb:b<w.heap.size:=(Array.getElem?_eq_some_iff.1 hc).1;refine⟨?_,cmt b 0 hb hm⟩;rcases h.block b hb with h1|⟨_,cs,cs',E,m,q1,q2,_,q4,q5⟩|h1
  ·have:=hm 0 (h0 b h1);omega
  ·rw[hc] at q1;cases q1
  ·exact h1.trans hc
theorem Rel.called {cx : Ctx} {g : G} {e1 : Env} {ac : Act} {w w' : World} (hR : Rel cx g e1 ac w) {hin hout rest : List (Nat × HO)} {yk : List Nat} {F' : Nat -> Option Nat} {d : Nat} {tb : Option Nat}
    (hsub : ∀ x ∈ hin, x ∈ e1.heap) (hrest : ∀ x ∈ rest, x ∈ e1.heap /\ x.1 ∉ keys hin) (hrn : (keys rest).Nodup)
    (hyk : ∀ b ∈ yk, ∃ t, g.O b = .tip t 0 /\ e1.own t 0 = 0)
    (kp : Kept g.F (keys hin) yk w w') (fx : zWF g.F F' w yk) (fr : Fresh F' w') (hi : HeapIn F' w' hout) (ho : ∀ b ∈ keys hout, b ∈ keys hin ∨ w.heap.size <= b)
    (htb : ∀ b, tb = some b -> b < w'.heap.size /\ (b ∈ yk ∨ (w.heap.size <= b /\ b ∉ keys hout))) :
    Rel cx { F := F', O := fun b => if tb = some b then .tip d 0 else if b ∈ keys hout then .obj else if b ∈ keys hin ∨ b ∈ yk then .no else g.O b } (app e1 [.heap (rest ++ hout)]) ac w' := by
  have hinO : ∀ b ∈ keys hin, g.O b = .obj := fun b hb => by
    obtain ⟨x, hx, rfl⟩ := List.mem_map.1 hb;exact hR.heapO _ (List.mem_map.2 ⟨x, hsub x hx, rfl⟩)
  have hinF : ∀ b ∈ keys hin, g.F b = some 0 := fun b hb => by
    obtain ⟨x, hx, rfl⟩ := List.mem_map.1 hb;exact hR.heap.shut _ (List.mem_map.2 ⟨x, hsub x hx, rfl⟩)
  have hinlt : ∀ b ∈ keys hin, b < w.heap.size := fun b hb => by
    obtain ⟨x, hx, rfl⟩ := List.mem_map.1 hb;exact (hR.heap.ok x (hsub x hx)).lt
  have hyl : ∀ b ∈ yk, b < w.heap.size := fun b hb => by
    obtain ⟨t, h1, _⟩ := hyk b hb;rcases Nat.lt_or_ge b w.heap.size with h | h
    · exact h
    · rw [hR.freshO b h] at h1; cases h1
  have hdis : ∀ b ∈ yk, b ∉ keys hin := fun b hb hb2 => by
    obtain ⟨t, h1, _⟩ := hyk b hb;rw [hinO b hb2] at h1; cases h1
  have hko : ∀ b ∈ keys hout, b ∉ yk := fun b hb hy => (ho b hb).elim (hdis b hy) (fun h => by have := hyl b hy; omega);have keep : ∀ b, b < w.heap.size -> b ∉ keys hin -> b ∉ yk -> w'.heap[b]? = w.heap[b]? /\ F' b = g.F b := fun b hb h1 h2 => by
    refine ⟨?_, ?_⟩
    · rcases kp.block b hb with h | ⟨h, _⟩ | h
      · exact absurd h h1
      · exact absurd h h2
      · exact h
    · rcases fx b hb with h | ⟨h, _⟩
      · exact h
      · exact absurd h h2
  have OO : ∀ b, b < w.heap.size -> b ∉ keys hin -> b ∉ yk -> (if tb = some b then Ow.tip d 0 else if b ∈ keys hout then .obj else if b ∈ keys hin ∨ b ∈ yk then .no else g.O b) = g.O b := fun b hb h1 h2 => by
    rw [if_neg, if_neg, if_neg]
    · exact fun h => h.elim h1 h2
    · exact fun h => (ho b h).elim h1 (fun h => by omega)
    · exact fun h => (htb b h).2.elim h2 (fun h => by omega)
  have kps : Keeps g.F w F' w' := kp.keeps fx hinF;have lt_of : ∀ b, g.O b ≠ .no -> b < w.heap.size := fun b hb => by
    rcases Nat.lt_or_ge b w.heap.size with h | h
    · exact h
    · exact absurd (hR.freshO b h) hb
  have box1 : ∀ b s q, g.O b = .box s q -> b < w.heap.size /\ b ∉ keys hin /\ b ∉ yk := fun b s q hb => ⟨lt_of b (by rw [hb]; simp), fun h => (by rw [hinO b h] at hb; cases hb), fun h => by
    obtain ⟨t, h1, _⟩ := hyk b h; rw [h1] at hb; cases hb⟩
  have box2 : ∀ b s q, (if tb = some b then Ow.tip d 0 else if b ∈ keys hout then .obj else if b ∈ keys hin ∨ b ∈ yk then .no else g.O b) = .box s q -> g.O b = .box s q := fun b s q hb => by
    split at hb
    · cases hb
    · split at hb
      · cases hb
      · split at hb
        · cases hb
        · exact hb
  have m : Mem g w { F := F', O := fun b => if tb = some b then .tip d 0 else if b ∈ keys hout then .obj else if b ∈ keys hin ∨ b ∈ yk then .no else g.O b } w' := by
    refine ⟨kps, fun b s q hb => ?_, fun b s q hb => .inl (box2 b s q hb)⟩;obtain ⟨h1, h2, h3⟩ := box1 b s q hb;exact ⟨by simp only [OO b h1 h2 h3]; exact hb, (keep b h1 h2 h3).2, (keep b h1 h2 h3).1⟩
  have hWlt : ∀ b, b < cx.W.heap.size -> b < w.heap.size := fun b hb => Nat.lt_of_lt_of_le hb hR.kept.size;have ykin : ∀ b, b < cx.W.heap.size -> b ∈ yk -> b ∈ cx.yk := fun b hb hy => by
    by_cases h2 : b ∈ cx.yk
    · exact h2
    · obtain ⟨t, h1, _⟩ := hyk b hy
      rcases hR.old b hb h2 with h3 | ⟨_, h3⟩ <;> (rw [h1] at h3; cases h3)
  have kpt : Kept cx.F cx.hk cx.yk cx.W w' := by
    refine ⟨kp.os.trans hR.kept.os, kp.tape.trans hR.kept.tape, kp.output.trans hR.kept.output, Nat.le_trans hR.kept.size kp.size, fun b hb => ?_⟩;rcases kp.block b (hWlt b hb) with h1 | ⟨h1, cs, cs', E, m, q1, q2, q3, q4, q5⟩ | h1
    · exact .inl (hR.hkin b hb (hinO b h1))
    · have hy := ykin b hb h1
      have hF : ∃ m0, cx.F b = some m0 /\ m0 <= m := by
        rcases hR.fext b hb with h3 | ⟨_, m1, m2, h3, h4, h5⟩
        · exact ⟨m, by rw [<- h3]; exact q4, Nat.le_refl _⟩
        · rw [q4] at h4; injection h4 with h4; exact ⟨m1, h3, by omega⟩
      obtain ⟨m0, hm0, hle⟩ := hF;rcases hR.kept.block b hb with p | ⟨_, c0, c1, E0, m3, p1, p2, p3, p4, p5⟩ | p
      · exact .inl p
      · rw [q1] at p2; injection p2 with p2; injection p2 with e1 e2
        subst e1; subst e2;rw [hm0] at p4; injection p4 with p4; subst p4
        exact .inr (.inl ⟨hy, c0, cs', E, m0, p1, q2, q3.trans p3, hm0, fun k hk => (q5 k (by omega)).trans (p5 k hk)⟩)
      · exact .inr (.inl ⟨hy, cs, cs', E, m0, by rw [<- p]; exact q1, q2, q3, hm0, fun k hk => q5 k (by omega)⟩)
    · rcases hR.kept.block b hb with p | ⟨hy, c0, c1, E0, m3, p1, p2, p3, p4, p5⟩ | p
      · exact .inl p
      · exact .inr (.inl ⟨hy, c0, c1, E0, m3, p1, by rw [h1]; exact p2, p3, p4, p5⟩)
      · exact .inr (.inr (h1.trans p))
  refine { size := hR.size, defers := hR.defers, kept := kpt, fext := fun b hb => ?_, nbx := fun b s q hb ho => hR.nbx b s q hb (box2 b s q ho), old := fun b hb h1 => ?_, hkO := hR.hkO, hkin := fun b hb h1 => ?_, fresh := fr, freshO := fun b hb => ?_,
           slots := fun s => (hR.slots s).mem m, own := fun s c sz v hs hpv => ?_, heap := ⟨?_, fun b hb => ?_, fun x hx => ?_⟩, heapO := fun b hb => ?_, al := fun b s hb => hR.al b s (box2 b s 1 hb) }
  · rcases fx b (hWlt b hb) with h1 | ⟨h1, m1, m2, h2, h3, h4⟩
    · rcases hR.fext b hb with h5 | ⟨h5, n1, n2, h6, h7, h8⟩
      · exact .inl (h1.trans h5)
      · exact .inr ⟨h5, n1, n2, h6, h1.trans h7, h8⟩
    · have hy := ykin b hb h1
      rcases hR.fext b hb with h5 | ⟨h5, n1, n2, h6, h7, h8⟩
      · exact .inr ⟨hy, m1, m2, by rw [<- h5]; exact h2, h3, h4⟩
      · rw [h2] at h7; injection h7 with h7; exact .inr ⟨hy, n1, m2, h6, h3, by omega⟩
  · have hny : b ∉ yk := fun h => h1 (ykin b hb h)
    by_cases hin' : b ∈ keys hin
    · by_cases hot : b ∈ keys hout
      · refine .inr ⟨hR.hkin b hb (hinO b hin'), ?_⟩
        simp only [];rw [if_neg (fun h => (htb b h).2.elim hny (fun h => by have := hWlt b hb; omega)), if_pos hot]
      · left
        simp only [];rw [if_neg (fun h => (htb b h).2.elim hny (fun h => by have := hWlt b hb; omega)), if_neg hot, if_pos (.inl hin')]
    · have := OO b (hWlt b hb) hin' hny
      simp only [this];exact hR.old b hb h1
  · simp only [] at h1
    split at h1
    · cases h1
    · split at h1
      · rename_i h2
        rcases ho b h2 with h3 | h3
        · exact hR.hkin b hb (hinO b h3)
        · have := hWlt b hb; omega
      · split at h1
        · cases h1
        · exact hR.hkin b hb h1
  · simp only []
    rw [if_neg (fun h => by have := (htb b h).1; omega), if_neg (fun h => by
      obtain ⟨x, hx, rfl⟩ := List.mem_map.1 h;have := (hi.ok x hx).lt; omega)]
    split
    · rfl
    · exact hR.freshO b (Nat.le_trans kp.size hb)
  · have hs' : e1.own s c = sz + 1 := hs
    have ht := hR.own s c sz v hs' (PlaceVal.back hR (fun b2 s3 q hb => (m.box b2 s3 q hb).2.2) hpv);have ok : ∀ b2, g.O b2 = .tip s c -> b2 < w.heap.size /\ b2 ∉ keys hin /\ b2 ∉ yk := fun b2 hb2 => ⟨lt_of b2 (by rw [hb2]; simp), fun h => (by rw [hinO b2 h] at hb2; cases hb2), fun h => by
      obtain ⟨t, h1, h2⟩ := hyk b2 h;rw [h1] at hb2; injection hb2 with e1 e2
      subst e1; subst e2;rw [h2] at hs'; cases hs'⟩
    refine ⟨?_, fun b2 hb2 => ?_⟩
    · rcases ht.1 with h3 | h3 | ⟨b2, off, n, cap, cs2, E2, q1, q2, q3, q4, q5⟩
      · exact .inl h3
      · exact .inr (.inl h3)
      · by_cases hn : n = cap
        · exact .inr (.inl ⟨some ⟨b2, off, none⟩, n, by rw [q1, hn]⟩)
        · obtain ⟨k1, k2, k3⟩ := ok b2 (ht.2 b2 (by rw [q1]; simp [zV, hn]))
          obtain ⟨r1, r2⟩ := keep b2 k1 k2 k3;exact .inr (.inr ⟨b2, off, n, cap, cs2, E2, q1, q2, by simp only []; rw [r2]; exact q3, by rw [r1]; exact q4, q5⟩)
    · have := ht.2 b2 hb2
      obtain ⟨k1, k2, k3⟩ := ok b2 this;simp only [OO b2 k1 k2 k3];exact this
  · show (keys (rest ++ hout)).Nodup
    unfold keys;rw [List.map_append, List.nodup_append];refine ⟨hrn, hi.nodup, fun a ha b hb hab => ?_⟩;subst hab;obtain ⟨x, hx, rfl⟩ := List.mem_map.1 ha;rcases ho _ hb with h | h
    · exact (hrest x hx).2 h
    · have := (hR.heap.ok x (hrest x hx).1).lt; omega
  · change b ∈ keys (rest ++ hout) at hb
    unfold keys at hb;rw [List.map_append, List.mem_append] at hb;rcases hb with hb | hb
    · obtain ⟨x, hx, rfl⟩ := List.mem_map.1 hb
      have hO := hR.heapO _ (List.mem_map.2 ⟨x, (hrest x hx).1, rfl⟩);have := (keep x.1 ((hR.heap.ok x (hrest x hx).1).lt) (hrest x hx).2 (fun h => by obtain ⟨t, h1, _⟩ := hyk _ h; rw [hO] at h1; cases h1)).2;simp only [];rw [this];exact hR.heap.shut _ (List.mem_map.2 ⟨x, (hrest x hx).1, rfl⟩)
    · exact hi.shut b hb
  · change x ∈ rest ++ hout at hx
    rcases List.mem_append.1 hx with hx | hx
    · have hO := hR.heapO _ (List.mem_map.2 ⟨x, (hrest x hx).1, rfl⟩)
      have hy : x.1 ∉ yk := fun h => by obtain ⟨t, h1, _⟩ := hyk _ h; rw [hO] at h1; cases h1
      exact (hR.heap.ok x (hrest x hx).1).grow kps (fun hb => (keep x.1 hb (hrest x hx).2 hy).1)
    · exact hi.ok x hx
  · change b ∈ keys (rest ++ hout) at hb
    unfold keys at hb;rw [List.map_append, List.mem_append] at hb;rcases hb with hb | hb
    · obtain ⟨x, hx, rfl⟩ := List.mem_map.1 hb
      have hO := hR.heapO _ (List.mem_map.2 ⟨x, (hrest x hx).1, rfl⟩);have hy : x.1 ∉ yk := fun h => by obtain ⟨t, h1, _⟩ := hyk _ h; rw [hO] at h1; cases h1
      have := OO x.1 ((hR.heap.ok x (hrest x hx).1).lt) (hrest x hx).2 hy;simp only [this];exact hO
    · have hb : b ∈ keys hout := hb
      simp only [];rw [if_neg (fun h => (htb b h).2.elim (hko b hb) (fun h => h.2 hb)), if_pos hb]
theorem zDU:∀{is:List Nat} {h hin:List (Nat×HO)},xK is h=some hin->(∀x∈hin,∃i∈is,h[i]? = some x)/\(is.Nodup->(keys h).Nodup->(keys hin).Nodup)
 | [],h,hin,ht=>by simp only[xK,Option.some.injEq] at ht;subst ht;exact⟨fun x hx=>by simp at hx,fun _ _=>by simp[keys]⟩
 | i::is,h,hin,ht=>by
  simp only[xK] at ht;split at ht
  ·rename_i x l hx hl;injection ht with ht;subst ht
   obtain⟨h1,h2⟩:=zDU hl;refine⟨fun y hy=>?_,fun hn hk=>?_⟩
   ·rcases List.mem_cons.1 hy with rfl|hy
    ·exact⟨i,List.mem_cons_self,hx⟩
    ·obtain⟨j,hj,he⟩:=h1 y hy;exact⟨j,List.mem_cons_of_mem _ hj,he⟩
   ·rw[List.nodup_cons] at hn;show (x.1::keys l).Nodup;rw[List.nodup_cons];refine⟨fun hm=>?_,h2 hn.2 hk⟩;obtain⟨y,hy,he⟩:=List.mem_map.1 hm;obtain⟨j,hj,hje⟩:=h1 y hy;have hij:i=j:=(List.getElem?_inj (l:=keys h) (by simpa[keys] using (List.getElem?_eq_some_iff.1 hx).1) hk).1 (by simp[keys,hx,hje,he]);subst hij;exact hn.1 hj
  ·cases ht
theorem zEY:∀{is:List Nat} {n:Nat} {h:List (Nat×HO)} {x:Nat×HO},x∈wX is n h->∃j,h[j]? = some x/\n+j∉is
 | is,n,[],x,hx=>by simp[wX] at hx
 | is,n,y::r,x,hx=>by
  simp only[wX] at hx;cases hb:is.any (Nat.beq n) with
  | true =>
   rw[hb] at hx;obtain⟨j,h1,h2⟩:=zEY hx;exact⟨j+1,h1,by rw[show n+(j+1)=n+1+j by omega];exact h2⟩
  | false =>
   rw[hb] at hx;rcases List.mem_cons.1 hx with rfl|hx
   ·refine⟨0,rfl,fun hm=>?_⟩;have:is.any (Nat.beq n)=true:=List.any_eq_true.2 ⟨n,hm,Nat.beq_refl n⟩;rw[hb] at this;cases this
   ·obtain⟨j,h1,h2⟩:=zEY hx;exact⟨j+1,h1,by rw[show n+(j+1)=n+1+j by omega];exact h2⟩
theorem zCH:∀(is:List Nat) (n:Nat) (h:List (Nat×HO)),List.Sublist (wX is n h) h
 | is,n,[]=>List.Sublist.refl _
 | is,n,x::r=>by
  simp only[wX];cases is.any (Nat.beq n)
  ·exact (zCH is (n+1) r).cons_cons x
  ·exact (zCH is (n+1) r).cons x
theorem jH:∀(n:Nat) (h:List (Nat×HO)),wX [] n h=h
 | _,[]=>rfl
 | n,x::r=>by simp[wX,jH (n+1) r]
theorem zMG {is:List Nat} {h hin:List (Nat×HO)} (ht:xK is h=some hin) (hk:(keys h).Nodup):∀x∈yF is h,x∈h/\x.1∉keys hin:=fun x hx=>by
 obtain⟨j,h1,h2⟩:=zEY hx;refine⟨List.mem_of_getElem? h1,fun hm=>?_⟩;obtain⟨y,hy,he⟩:=List.mem_map.1 hm;obtain⟨i,hi,hie⟩:=(zDU ht).1 y hy;have hij:i=j:=(List.getElem?_inj (l:=keys h) (by simpa[keys] using (List.getElem?_eq_some_iff.1 hie).1) hk).1 (by simp[keys,h1,hie,he]);subst hij;rw[Nat.zero_add] at h2;exact h2 hi
theorem zFK {cx:Ctx} {g:G} {ac:Act} {w:World}:∀{as:List Operand} {os:List Nat} {e:Env},Rel cx g e ac w->wR e as os=true->(∀(i:Nat) t,as[i]? = some (.tmp t)->∃a,e.vals t = .v a) ->
  Rel cx g (app e (lose as os)) ac w/\(∀(i:Nat) v sz,(as.map ac.eval)[i]? = some v->os[i]? = some (sz+1)->TipA g.F w sz v)/\(zS (as.map ac.eval) os).Nodup /\
  (∀b∈zS (as.map ac.eval) os,∃t,g.O b = .tip t 0/\e.own t 0≠0/\(app e (lose as os)).own t 0=0)/\(∀s c,e.own s c=0->(app e (lose as os)).own s c=0)/\(app e (lose as os)).vals=e.vals/\(app e (lose as os)).heap=e.heap/\(app e (lose as os)).al=e.al
 | as,[],e,hR,_,_=>by
  have h1:lose as []=[]:=by cases as with
   | nil=>rfl
   | cons a r=>cases a<;>rfl
  have h2:zS (as.map ac.eval) []=[]:=by cases as<;>rfl
  rw[h1,h2];exact⟨hR,fun i v sz _ h=>by simp at h,List.nodup_nil,fun b hb=>by simp at hb,fun _ _ h=>h,rfl,rfl,rfl⟩
 | [],o::os,e,_,h,_=>by simp[wR] at h
 | a::r,0::os,e,hR,h,hv=>by
  have h1:lose (a::r) (0::os)=lose r os:=by cases a<;>rfl
  rw[h1];simp only[wR] at h;obtain⟨k1,k2,k3,k4,k5⟩:=zFK (as:=r) (os:=os) hR h (fun i t hi=>hv (i+1) t hi);refine⟨k1,fun i v sz hi ho=>?_,k3,k4,k5⟩
  match i with
  | 0=>simp at ho
  | i+1=>exact k2 i v sz hi ho
 | a::r,(n+1)::os,e,hR,h,hv=>by
  cases a with
  | tmp t =>
   simp only[wR,Bool.and_eq_true] at h;obtain⟨h0,h1⟩:=h;have h0:=Nat.eq_of_beq_eq_true h0;obtain⟨a,ha⟩:=hv 0 t rfl;have ht:=hR.own t 0 n (ac.eval (.tmp t)) h0 (by rw[ha];exact⟨rfl,rfl⟩);have hR1:=hR.setOwn t 0 0 (fun sz v h=>by cases h);obtain⟨k1,k2,k3,k4,k5,k6,k7,k8⟩:=zFK (as:=r) (os:=os) hR1 h1 (fun i t hi=>hv (i+1) t hi);have own0:∀s c,e.own s c=0->(app e [.own t 0 0]).own s c=0:=fun s c h=>by
    simp only[app,app1];cases Nat.beq s t && Nat.beq c 0<;>simp[h]
   have own1:∀s c,(app e [.own t 0 0]).own s c≠0->e.own s c≠0/\¬(s=t/\c=0):=fun s c h=>by
    refine⟨fun h1=>h (own0 s c h1),fun h1=>?_⟩;obtain⟨rfl,rfl⟩:=h1;simp[app,app1] at h
   refine⟨k1,fun i v sz hi ho=>?_,?_,fun b hb=>?_,fun s c h=>k5 s c (own0 s c h),k6,k7,k8⟩
   ·match i with
    | 0 =>
     simp at hi ho;subst hi;subst ho;exact ht.1
    | i+1=>exact k2 i v sz hi ho
   ·show ((match zV (ac.eval (.tmp t)) with|some b=>[b]|none=>[])++zS (r.map ac.eval) os).Nodup;cases hb:zV (ac.eval (.tmp t)) with
    | none=>simpa using k3
    | some b =>
     simp only[List.singleton_append,List.nodup_cons];refine⟨fun hm=>?_,k3⟩;obtain⟨t',q1,q2,_⟩:=k4 b hm;have:=ht.2 b hb;rw[this] at q1;injection q1 with q1 _
     exact (own1 t' 0 q2).2 ⟨q1.symm,rfl⟩
   ·change b∈(match zV (ac.eval (.tmp t)) with|some b=>[b]|none=>[])++zS (r.map ac.eval) os at hb
    rcases List.mem_append.1 hb with hb|hb
    ·cases hc:zV (ac.eval (.tmp t)) with
     | none=>rw[hc] at hb;simp at hb
     | some b' =>
      rw[hc] at hb;simp only[List.mem_singleton] at hb;subst hb;exact⟨t,ht.2 b hc,by rw[h0];omega,k5 t 0 (by simp[app,app1])⟩
    ·obtain⟨t',q1,q2,q3⟩:=k4 b hb;exact⟨t',q1,(own1 t' 0 q2).1,q3⟩
  | const v =>
   simp only[wR,Bool.and_eq_true] at h;obtain⟨h0,h⟩:=h;obtain rfl:=zVK h0;have h1:lose (.const (.slice none 0 0)::r) ((n+1)::os)=lose r os:=rfl;have h2:zS ((.const (.slice none 0 0)::r).map ac.eval) ((n+1)::os)=zS (r.map ac.eval) os:=rfl;rw[h1,h2];obtain⟨k1,k2,k3,k4,k5⟩:=zFK (as:=r) (os:=os) hR h (fun i t hi=>hv (i+1) t hi);refine⟨k1,fun i v sz hi ho=>?_,k3,k4,k5⟩
   match i with
   | 0=>simp at hi;subst hi;exact .inl rfl
   | i+1=>exact k2 i v sz hi ho
  | _=>simp[wR] at h
theorem zMF:∀{as:List Operand} {ys:List AV} {e:Env},opds e as=some ys->∀(i:Nat) x,as[i]? = some x->∃a,opd e x = .v a
 | [],_,_,_,i,x,h=>by simp at h
 | o::r,ys,e,hx,i,x,h=>by
  simp only[opds] at hx;cases ho:opd e o with
  | v a' =>
   rw[ho] at hx;cases hr:opds e r with
   | none=>rw[hr] at hx;simp at hx
   | some l =>
    match i with
    | 0=>simp at h;subst h;exact⟨a',ho⟩
    | i+1=>exact zMF hr i x (by simpa using h)
  | _=>rw[ho] at hx;simp at hx
def zBX (d:Option Nat) (w:Nat):List U:=match d with|some d=>[.own d 0 w]|none=>[]
theorem zI3 {c:Call} {f:Operand} (ho:o.op = .call c) (hc:c.callee = .value f) {ac:Act} {w:World} {n:Nat} {first cap:Array Value} (hf:ac.eval f = .func (.func n) first cap) (he:Enters P n) :
  (execOp ac.eval o).run P w = .ok (.enter n (first++c.args.map ac.eval++cap)) w:=by
 obtain⟨fn,h1,h2,h3⟩:=he;have h4:fn.body.isNone=false:=by cases hb:fn.body<;>simp[hb] at h2⊢
 unfold execOp;have hp:(program).run P w = .ok P w:=rfl;simp only[ho,resolve,hc,hf,Deferred.ofValue,pure_bind,invoke,callFunc,Sem.run_bind,hp,Result.andThen_ok,h1,h3,h4,Bool.false_eq_true,if_false,Sem.run_pure]
theorem zDQ {cx:Ctx} {g:G} {e':Env} {ac:Act} {w:World} {m:Nat} (hag:Agree m e e') (hR:Rel cx g e' ac w) {c:Call} {f:Operand} (ho:o.op = .call c) (hc:c.callee = .value f) (hm1:Sub (zJ f) m) (hm2:Sub (zG c.args.toList) m)
  (hdn:∀d,o.dst=some d->d<cx.n) {fv:Value} (hf:opd e f = .v (.lit fv)) {args:List AV} (ha:opds e c.args.toList=some args) {is os:List Nat} {hin:List (Nat×HO)} (hh:xK is e'.heap=some hin) (hn:is.Nodup)
  (hos:wR e' c.args.toList os=true) {post:AV->Nat->List (Nat×HO)->Prop} (hcall:CallsG P fv hin args os post) {K:Act->World->Prop} {Q:Exit->Act->World->Prop}
  (hK:∀r n hout g' a' w',post r n hout->Rel cx g' (app e' (lose c.args.toList os++(putU o.dst (.v r)++(zBX o.dst n++[.heap (yF is e'.heap++hout)])))) a' w'->K a' w'):o.wp P ac w K Q:=by
 obtain⟨n,first,cap,rfl,hen,hcalls⟩:=hcall;have hfv:=(zF hag hR hm1 hf).lit_eq.1;obtain⟨al,ar⟩:=zFV hag hR hm2 ha;have hvals:∀(i:Nat) t,c.args.toList[i]? = some (.tmp t)->∃a,e'.vals t = .v a:=fun i t hi=>by
  obtain⟨a,ha'⟩:=zMF ha i _ hi;have hb:Sub (bV t) m:=by
   have:∀{l:List Operand} {i:Nat},l[i]? = some (.tmp t)->Sub (bV t) (zG l):=by
    intro l;induction l with
    | nil=>intro i h;simp at h
    | cons x r ih =>
     intro i h
     match i with
     | 0=>simp at h;subst h;exact Sub.inl
     | i+1=>exact (ih (by simpa using h)).trans Sub.inr
   exact (this hi).trans hm2
  have hsn:=hag.val t (hb _ (qO t));simp only[opd] at ha';rw[ha'] at hsn;cases hx:e'.vals t with
  | v a2=>exact⟨a2,rfl⟩
  | _=>rw[hx] at hsn;cases a<;>simp[nf] at hsn
 obtain⟨k1,k2,k3,k4,k5,k6,k7,k8⟩:=zFK hR hos hvals;unfold Oper.wp;rw[zI3 ho hc hfv hen,Oper.upon_enter];have hargs:c.args.map ac.eval=(c.args.toList.map ac.eval).toArray:=Array.toList_inj.1 (by simp);have hins:=zDU hh;have hsub:∀x∈hin,x∈e'.heap:=fun x hx=>by obtain⟨i,_,h⟩:=hins.1 x hx;exact List.mem_of_getElem? h
 have hci:=hcalls g.F w (c.args.toList.map ac.eval) hR.fresh ⟨hins.2 hn hR.heap.nodup,fun b hb=>by
   obtain⟨x,hx,rfl⟩:=List.mem_map.1 hb;exact hR.heap.shut _ (List.mem_map.2 ⟨x,hsub x hx,rfl⟩),fun x hx=>hR.heap.ok x (hsub x hx)⟩
  ⟨by simp[al],ar,k2,k3⟩ (fun b hb hbi=>by
   obtain⟨t,q1,_,_⟩:=k4 b hb;obtain⟨x,hx,rfl⟩:=List.mem_map.1 hbi;have:=hR.heapO _ (List.mem_map.2 ⟨x,hsub x hx,rfl⟩);rw[q1] at this;cases this)
 rw[hargs];refine hci.mono fun en w' hpost=>?_;obtain⟨v,r,n',hout,F',rfl,p1,p2,p3,p4,p5,p6,p7,p8⟩:=hpost;show K (ac.put o.dst v) w';have tip0:∀b,(if n'=0 then none else zV v)=some b->b<w'.heap.size/\(b∈zS (c.args.toList.map ac.eval) os∨(w.heap.size<=b/\b∉keys hout)):=fun b hb=>by
  split at hb
  ·cases hb
  ·rename_i hn0;obtain⟨q1,q2⟩:=p3 (n'-1) (by omega);refine⟨?_,q2 b hb⟩;rcases q1 with q|⟨a,n,q⟩|⟨b2,off,n,cap,cs2,E2,q,_,_,q4,_⟩
   ·subst q;simp[zV] at hb
   ·subst q;cases a<;>simp[zV] at hb
   ·subst q;have:=zB0 hb;subst this;exact zL q4
 have hcd:=Rel.called (d:=o.dst.getD 0) (tb:=if n'=0 then none else zV v) k1 (hin:=hin) (hout:=hout) (rest:=yF is e'.heap) (yk:=zS (c.args.toList.map ac.eval) os) (F':=F')
  (by rw[k7];exact hsub) (by rw[k7];exact zMG hh hR.heap.nodup) (((zCH is 0 e'.heap).map _).nodup hR.heap.nodup) (fun b hb=>by obtain⟨t,q1,_,q3⟩:=k4 b hb;exact⟨t,q1,q3⟩) p4 p5 p6 p7 p8 tip0
 cases hd:o.dst with
 | none =>
  rw[hd] at hcd;have:app e' (lose c.args.toList os++(putU none (.v r)++(zBX none n'++[.heap (yF is e'.heap++hout)])))=app (app e' (lose c.args.toList os)) [.heap (yF is e'.heap++hout)]:=by
   simp only[putU,zBX,List.nil_append];rw[yG]
  rw[<-this] at hcd;exact hK r n' hout _ _ w' p1 (by rw[hd];exact hcd)
 | some d =>
  rw[hd] at hcd;have h2:=hcd.put (hdn d hd) (x := .v r) (v:=v) p2;have h3:=h2.setOwn d 0 n' (fun sz u he hv=>by
   have:(app (app (app e' (lose c.args.toList os)) [.heap (yF is e'.heap++hout)]) [.val d (.v r),.clr d]).vals d = .v r:=zW _ _ _;rw[this] at hv;have hv:=hv.2;rw[yK (by rw[hR.size];exact hdn d hd)] at hv;subst hv;obtain⟨q1,q2⟩:=p3 sz he;refine⟨q1,fun b hb=>?_⟩;simp only[Option.getD_some];rw[if_pos];rw[if_neg (by omega)];exact hb)
  have:app e' (lose c.args.toList os++(putU (some d) (.v r)++(zBX (some d) n'++[.heap (yF is e'.heap++hout)])))=app (app (app (app e' (lose c.args.toList os)) [.heap (yF is e'.heap++hout)]) [.val d (.v r),.clr d]) [.own d 0 n']:=by
   rw[yG,yG,yG];exact Env.ext' (fun _=>rfl) (fun _ _=>rfl) (fun _=>rfl) rfl
  rw[<-this] at h3;exact hK r n' hout _ _ w' p1 (by rw[hd];exact h3)
end
section
variable {P:Program} {hp:Bool} {arr:Array Oper} {o:Oper} {e:Env} {k:List U->Prop} {T:TT}
theorem yO {esz:Nat}:∀{m:List AV},Uni esz m->(m.flatMap AV.cells).length=m.length*esz
 | [],_=>by simp
 | x::m,h=>by
  have h1:=h x (by simp);have h2:=yO (m:=m) (fun y hy=>h y (by simp[hy]));rw[List.flatMap_cons,List.length_append,h1,h2,List.length_cons,Nat.succ_mul];omega
theorem zCM {esz:Nat} (h0:0<esz):∀{m:List AV},Uni esz m->∀{p:Nat} {c:AV},(m.flatMap AV.cells)[p]? = some c->∃x,m[p / esz]? = some x/\x.cells[p % esz]? = some c
 | [],_,p,c,h=>by simp at h
 | x::m,hu,p,c,h=>by
  have h1:=hu x (by simp);rw[List.flatMap_cons] at h;rcases Nat.lt_or_ge p esz with hp|hp
  ·rw[List.getElem?_append_left (by omega)] at h;rw[Nat.div_eq_of_lt hp,Nat.mod_eq_of_lt hp];exact⟨x,by simp,h⟩
  ·rw[List.getElem?_append_right (by omega),h1] at h;obtain⟨y,h2,h3⟩:=zCM h0 (m:=m) (fun y hy=>hu y (by simp[hy])) h;have e1:p / esz=(p-esz) / esz+1:=by
    have:p=(p-esz)+esz:=by omega
    rw[this,Nat.add_div_right _ h0];congr 2;omega
   have e2:p % esz=(p-esz) % esz:=by
    have:p=(p-esz)+esz:=by omega
    rw[this,Nat.add_mod_right];congr 1;omega
   rw[e1,e2];exact⟨y,by simpa using h2,h3⟩
theorem zB5 {F:Nat->Option Nat} {w:World} {esz:Nat} {m:List AV} {news:List Value} (h0:0<esz) (hu:Uni esz m) (hl:news.length=m.length*esz)
  (h:∀(i:Nat) x (j:Nat) c,m[i]? = some x->x.cells[j]? = some c->∃u,news[i*esz+j]? = some u/\Rep F w u c/\c.isCell=true):RepCells F w news (m.flatMap AV.cells):=by
 refine⟨by rw[hl,yO hu],fun p u c hp hc=>?_⟩;obtain⟨x,h1,h2⟩:=zCM h0 hu hc;obtain⟨u',h3,h4,h5⟩:=h _ _ _ _ h1 h2;have:p / esz*esz+p % esz=p:=by rw[Nat.mul_comm];exact Nat.div_add_mod p esz
 rw[this,hp] at h3;injection h3 with h3
 subst h3;exact⟨h4,h5⟩
theorem RepCells.append {F:Nat->Option Nat} {w:World} {cs ds:List Value} {l m:List AV} (h1:RepCells F w cs l) (h2:RepCells F w ds m):RepCells F w (cs++ds) (l++m):=by
 refine⟨by rw[List.length_append,List.length_append,h1.1,h2.1],fun j u c hu hc=>?_⟩;rcases Nat.lt_or_ge j l.length with hj|hj
 ·rw[List.getElem?_append_left (by rw[h1.1];exact hj)] at hu;rw[List.getElem?_append_left hj] at hc;exact h1.2 j u c hu hc
 ·rw[List.getElem?_append_right (by rw[h1.1];exact hj),h1.1] at hu;rw[List.getElem?_append_right hj] at hc;exact h2.2 _ u c hu hc
theorem RepCells.take {F:Nat->Option Nat} {w:World} {cs:List Value} {l:List AV} (h:RepCells F w cs l) (n:Nat):RepCells F w (cs.take n) (l.take n):=by
 refine⟨by simp[h.1],fun j u c hu hc=>?_⟩;rw[List.getElem?_take] at hu hc;split at hu
 ·rename_i hj;rw[if_pos hj] at hc;exact h.2 j u c hu hc
 ·cases hu
theorem zB7 {F:Nat->Option Nat} {w:World} {z:Array Value} (hz:z.all (·.oneCell')=true) (n:Nat):RepCells F w (Builtin.zeroCells z n).toList ((Builtin.zeroCells z n).toList.map AV.lit):=by
 refine⟨by simp,fun j u c hu hc=>?_⟩;rw[List.getElem?_map,hu] at hc;simp at hc;subst hc;have hm:=List.mem_of_getElem? hu;have:u.oneCell'=true:=by
  simp only[Builtin.zeroCells] at hm;simp at hm;obtain⟨i,hi,rfl⟩:=hm;rw[Array.all_eq_true] at hz;have h0:0<z.size:=by
   rcases Nat.eq_zero_or_pos z.size with h|h
   ·rw[h] at hi;simp at hi
   ·exact h
  have hlt:=Nat.mod_lt i h0;simpa[hlt] using hz _ hlt
 exact⟨.lit u this,this⟩
theorem Rel.heapTo {cx:Ctx} {g:G} {e:Env} {a:Act} {w:World} (h:Rel cx g e a w) {h':List (Nat×HO)} (h1:HeapIn g.F w h') (h2:∀b∈keys h',g.O b = .obj):Rel cx g (app e [.heap h']) a w :=
 {h with heap:=h1,heapO:=h2}
theorem Rel.newBlock {cx:Ctx} {g:G} {e:Env} {a:Act} {w:World} (h:Rel cx g e a w) {cs:Array Value} {E:TypeId} {l:List AV} (hc:RepCells g.F w cs.toList l) {d:Nat} (hd:d<cx.n) {n cap:Nat} :
  ∃g',Rel cx g' (app e [.val d (.v (.lit (.slice (some ⟨w.heap.size,0,none⟩) n cap))),.clr d]) (a.put (some d) (.slice (some ⟨w.heap.size,0,none⟩) n cap)) (w.drew.alloc (.cells cs E)) /\
   HeapIn g'.F (w.drew.alloc (.cells cs E)) (e.heap++[(w.heap.size,HO.cells l)])/\(∀b∈keys (e.heap++[(w.heap.size,HO.cells l)]),g'.O b = .obj):=by
 have hgr:Grow w (w.drew.alloc (.cells cs E)):=(Grow.drew w).trans (Grow.alloc w.drew _);have hnew:=World.heap_alloc_new w.drew (.cells cs E);have hnew:(w.drew.alloc (.cells cs E)).heap[w.heap.size]? = some (.cells cs E):=hnew;have h1:=h.extend hgr (b0:=w.heap.size) (Nat.le_refl _) (zL hnew) (some 0) .obj (fun s q h=>by cases h);have hlt:∀b,b<w.heap.size->b≠w.heap.size:=fun b hb he=>by omega
 have kp:Keeps g.F w (fun b=>if b=w.heap.size then some 0 else g.F b) (w.drew.alloc (.cells cs E)):=hgr.keeps (fun b hb=>by simp[hlt b hb]);have hold:∀b∈keys e.heap,b<w.heap.size:=fun b hb=>by
  obtain⟨x,hx,rfl⟩:=List.mem_map.1 hb;have:=h.heap.ok x hx;cases ho:x.2 with
  | cells l=>rw[ho] at this;obtain⟨cs,E,h1,_⟩:=this;exact zL h1
  | mp l=>rw[ho] at this;obtain⟨cs,E,h1,_⟩:=this;exact zL h1
  | it l seen=>rw[ho] at this;obtain⟨m,es,cl,st,h1,_⟩:=this;exact zL h1
  | raw p=>rw[ho] at this;obtain⟨o,h1,_⟩:=this;exact zL h1
 have hk:keys (e.heap++[(w.heap.size,HO.cells l)])=keys e.heap++[w.heap.size]:=by simp[keys]
 refine⟨_,h1.put hd (x := .v (.lit (.slice (some ⟨w.heap.size,0,none⟩) n cap))) (Rep.lit _ rfl),⟨?_,fun b hb=>?_,fun x hx=>?_⟩,fun b hb=>?_⟩
 ·rw[hk];refine List.nodup_append.2 ⟨h.heap.nodup,by simp,?_⟩;rintro a ha b hb rfl;simp at hb;exact hlt a (hold a ha) hb
 ·rw[hk] at hb;rcases List.mem_append.1 hb with hb|hb
  ·simp only[hlt b (hold b hb),if_false];exact h.heap.shut b hb
  ·simp at hb;simp[hb]
 ·rcases List.mem_append.1 hx with hx|hx
  ·exact (h.heap.ok x hx).grow kp (fun hb=>hgr.block _ hb)
  ·simp at hx;subst hx;exact⟨cs,E,hnew,hc.mono kp⟩
 ·rw[hk] at hb;rcases List.mem_append.1 hb with hb|hb
  ·simp only[hlt b (hold b hb),if_false];exact h.heapO b hb
  ·simp at hb;simp[hb]
theorem zL8 {α:Type}:∀{l:List α} {i:Nat} {a:α},l.Nodup->a∉l->(l.set i a).Nodup
 | [],_,_,h,_=>h
 | x::l,0,a,h,ha=>List.nodup_cons.2 ⟨fun hm=>ha (List.mem_cons_of_mem _ hm),(List.nodup_cons.1 h).2⟩
 | x::l,i+1,a,h,ha=>by
  obtain⟨h1,h2⟩:=List.nodup_cons.1 h;refine List.nodup_cons.2 ⟨fun hm=>?_,zL8 h2 (fun hm=>ha (List.mem_cons_of_mem _ hm))⟩;rcases List.mem_or_eq_of_mem_set hm with h3|h3
  ·exact h1 h3
  ·exact ha (by rw[h3];exact List.mem_cons_self)
theorem Rel.newBlock' {cx:Ctx} {g:G} {e:Env} {a:Act} {w w1:World} (h:Rel cx g e a w) (hgr:Grow w w1) {cs:Array Value} {E:TypeId} (hnew:w1.heap[w.heap.size]? = some (.cells cs E (0,0))) {l:List AV} (hc:RepCells g.F w cs.toList l) {d:Nat} (hd:d<cx.n) {x:Value} (hx:x.oneCell'=true) :
  ∃g',Rel cx g' (app e [.val d (.v (.lit x)),.clr d]) (a.put (some d) x) w1 /\
   HeapIn g'.F w1 (e.heap++[(w.heap.size,HO.cells l)])/\(∀b∈keys (e.heap++[(w.heap.size,HO.cells l)]),g'.O b = .obj):=by
 have h1:=h.extend hgr (b0:=w.heap.size) (Nat.le_refl _) (zL hnew) (some 0) .obj (fun s q h=>by cases h);have hlt:∀b,b<w.heap.size->b≠w.heap.size:=fun b hb he=>by omega
 have kp:Keeps g.F w (fun b=>if b=w.heap.size then some 0 else g.F b) w1:=hgr.keeps (fun b hb=>by simp[hlt b hb]);have hold:∀b∈keys e.heap,b<w.heap.size:=fun b hb=>by
  obtain⟨x,hx,rfl⟩:=List.mem_map.1 hb;have:=h.heap.ok x hx;cases ho:x.2 with
  | cells l=>rw[ho] at this;obtain⟨cs,E,h1,_⟩:=this;exact zL h1
  | mp l=>rw[ho] at this;obtain⟨cs,E,h1,_⟩:=this;exact zL h1
  | it l seen=>rw[ho] at this;obtain⟨m,es,cl,st,h1,_⟩:=this;exact zL h1
  | raw p=>rw[ho] at this;obtain⟨o,h1,_⟩:=this;exact zL h1
 have hk:keys (e.heap++[(w.heap.size,HO.cells l)])=keys e.heap++[w.heap.size]:=by simp[keys]
 refine⟨_,h1.put hd (x := .v (.lit x)) (Rep.lit _ hx),⟨?_,fun b hb=>?_,fun x hx=>?_⟩,fun b hb=>?_⟩
 ·rw[hk];refine List.nodup_append.2 ⟨h.heap.nodup,by simp,?_⟩;rintro a ha b hb rfl;simp at hb;exact hlt a (hold a ha) hb
 ·rw[hk] at hb;rcases List.mem_append.1 hb with hb|hb
  ·simp only[hlt b (hold b hb),if_false];exact h.heap.shut b hb
  ·simp at hb;simp[hb]
 ·rcases List.mem_append.1 hx with hx|hx
  ·exact (h.heap.ok x hx).grow kp (fun hb=>hgr.block _ hb)
  ·simp at hx;subst hx;exact⟨cs,E,hnew,hc.mono kp⟩
 ·rw[hk] at hb;rcases List.mem_append.1 hb with hb|hb
  ·simp only[hlt b (hold b hb),if_false];exact h.heapO b hb
  ·simp at hb;simp[hb]
theorem zMP {F:Nat->Option Nat} {w:World} {h:List (Nat×HO)} {i:Nat} {x y:Nat×HO} (hi:h[i]? = some x) (hh:HeapIn F w (h++[y])):HeapIn F w (h.set i y)/\∀b∈keys (h.set i y),b∈keys (h++[y]):=by
 have hlt:=(List.getElem?_eq_some_iff.1 hi).1;have hk:keys (h++[y])=keys h++[y.1]:=by simp[keys]
 have hsub:∀z∈h.set i y,z∈h++[y]:=fun z hz=>by
  rcases List.mem_or_eq_of_mem_set hz with h1|h1
  ·exact List.mem_append_left _ h1
  ·subst h1;simp
 have hkeys:∀b∈keys (h.set i y),b∈keys (h++[y]):=fun b hb=>by
  obtain⟨z,hz,rfl⟩:=List.mem_map.1 hb;exact List.mem_map_of_mem (hsub z hz)
 refine⟨⟨?_,fun b hb=>hh.shut b (hkeys b hb),fun z hz=>hh.ok z (hsub z hz)⟩,hkeys⟩;have hn:=hh.nodup;rw[hk] at hn;obtain⟨n1,_,n3⟩:=List.nodup_append.1 hn;have e:keys (h.set i y)=(keys h).set i y.1:=by simp[keys,List.map_set]
 rw[e];exact zL8 n1 (fun hm=>n3 y.1 hm y.1 (by simp) rfl)
theorem zXR (hT:zN P T) {c:Call} (ho:o.op = .call c) (hc:c.callee = .builtin .append) {x y:Operand} {t:Nat} (hts:c.argTypes.toList=[t,t]) (hx:c.args.toList=[x,y]) {A:Option Addr} {n cap:Nat} (hxa:opd e x = .v (.lit (.slice A n cap)))
  (h:zYE T o t A n cap y e k):∀cx g a w,(∀d,o.dst=some d->d<cx.n)->Rel cx g e a w->∀(K:Act->World->Prop) (Q:Exit->Act->World->Prop),
  (∀u g' a' w',k u->Rel cx g' (app e u) a' w'->K a' w')->o.wp P a w K Q:=by
 intro cx g ac w hdn hR K Q hK;have hag:=Agree.refl (zJ x ||| zJ y) e;have ha:=qK hx;have htt:=qM hts;unfold zYE at h;split at h
 ·rename_i E esz b d hf hyb hd;have hk:=find_ok hT t;rw[hf] at hk;obtain⟨it,i,z,k1,k2,k3,k4,k5,k6,k7,k8,k9,k10,k11,k12⟩:=hk;subst k6;have exec:∀v' w',(Builtin.append_ #[t,t] o.type #[ac.eval x,ac.eval y]).run P w = .ok v' w'->(execOp ac.eval o).run P w = .ok (.value v') w':=fun v' w' hr=>by
   obtain⟨cs,hex⟩:=yH (ρ:=ac.eval) ho hc;rw[hex,ha,htt];simp only[builtin,List.map_toArray,List.map_cons,List.map_nil,Sem.run_bind,hr,Result.andThen_ok,Sem.run_pure]
  have hv:=(zF hag hR Sub.inl hxa).lit_eq.1;have hm:=wG (zF hag hR Sub.inr hyb);split at h
  ·rename_i m hwb;rw[hwb] at hm;obtain⟨hne,hbig,hu,h⟩:=h;have hpos:0<m.length:=List.length_pos_iff.2 hne;obtain⟨news,ad2,cap2,hv2,s2,f2,r2⟩:=wL k1 hm hu;have hnl:=s2.newsLen;have hcells:=zB5 k10 hu hnl r2;have grow:∀(A:Option Addr) (n cap:Nat) (olds:List Value) (ol:List AV),n+m.length<=4294967296->cap<n+m.length->(Builtin.firstCells i.size n (.slice A n cap)).run P w.drew = .ok olds.toArray w.drew->RepCells g.F w olds ol->olds.length=n*i.size->ac.eval x = .slice A n cap ->
     (∀b' cap' zs,n+m.length<=cap'->zs.length=(cap'-(n+m.length))*i.size->∀g' a' w',Rel cx g' (app e [.val d (.v (.lit (.slice (some ⟨b',0,none⟩) (n+m.length) cap'))),.clr d]) a' w' ->
      HeapIn g'.F w' (e.heap++[(b',HO.cells (ol++(m.flatMap AV.cells++zs)))])->(∀q∈keys (e.heap++[(b',HO.cells (ol++(m.flatMap AV.cells++zs)))]),g'.O q = .obj)->K a' w')->o.wp P ac w K Q:=fun A n cap olds ol hbig hg hfirst hol holl hv hfin=>by
    have hfit:Builtin.nextslicecap (n+m.length) cap*i.bytes<=281474976710656:=growslice_fits hg (by
     have:(n+m.length)*i.bytes<=4294967296*32768:=Nat.mul_le_mul hbig k12;omega)
    have hrun:=run_append_grow_src (P:=P) w t t o.type E i z k1 k5 k7 A n cap olds hfirst (ac.eval y) m.length news s2 hg (by omega) hfit;have hcap':n+m.length<=grownCap w (n+m.length) cap E:=grownCap_ge w _ _ _;rw[<-hv] at hrun;refine zU (exec _ _ hrun) ?_;rw[hd];have hz:RepCells g.F w (((olds++news).toArray++Builtin.zeroCells z.cells (grownCap w (n+m.length) cap E-(n+m.length))).toList) (ol++(m.flatMap AV.cells++(Builtin.zeroCells z.cells (grownCap w (n+m.length) cap E-(n+m.length))).toList.map AV.lit)):=by
     rw[Array.toList_append,List.toList_toArray,List.append_assoc];exact hol.append (hcells.append (zB7 k9 _))
    obtain⟨g',q1,q2,q3⟩:=hR.newBlock (E:=E) hz (hdn d hd) (n:=n+m.length) (cap:=grownCap w (n+m.length) cap E);exact hfin _ _ _ hcap' (by simp[Builtin.zeroCells,k8]) g' _ _ q1 q2 q3
   split at h
   ·obtain⟨rfl,rfl,h⟩:=h;refine grow none 0 0 [] [] hbig (by omega) (by simp[Builtin.firstCells]) ⟨rfl,fun j u c hu=>by simp at hu⟩ (by simp) hv fun b' cap' zs h1 h2 g' a' w' q1 q2 q3=>?_;simp only[Nat.zero_add,List.nil_append] at h1 h2 q1 q2 q3;exact hK _ g' a' w' (h b' cap' zs h1 h2) (q1.heapTo q2 q3)
   ·rename_i b0;obtain⟨j,l,hj,hnc,hll,h⟩:=h;obtain⟨cs,E2,p5,p6⟩:=hR.heapAt hj;have hcs:cs.size=cap*i.size:=by rw[<-hll,<-p6.1];simp
    by_cases hg:cap<n+m.length
    ·
     have hle:n*i.size<=cs.size:=by rw[hcs];exact Nat.mul_le_mul_right _ hnc
     have hfirst:(Builtin.firstCells i.size n (.slice (some ⟨b0,0,none⟩) n cap)).run P w.drew = .ok (cs.toList.take (n*i.size)).toArray w.drew:=by
      have:=run_loadCells_list (P:=P) w.drew ⟨b0,0,none⟩ (cs.toList.take (n*i.size)) (fun q v hq=>by
       rw[List.getElem?_take] at hq;split at hq
       ·rw[Addr.add_at,Nat.zero_add];show w.cell? _=_;rw[World.cell_of_cells p5,<-Array.getElem?_toList];exact hq
       ·cases hq)
      rw[List.length_take,Array.length_toList,Nat.min_eq_left hle] at this;simpa[Builtin.firstCells] using this
     refine grow _ n cap (cs.toList.take (n*i.size)) (l.take (n*i.size)) hbig hg hfirst (p6.take _) (by rw[List.length_take,Array.length_toList];omega) hv fun b' cap' zs h1 h2 g' a' w' q1 q2 q3=>?_;obtain⟨s1,s2⟩:=zMP hj q2;exact hK _ g' a' w' (h b' cap' zs h1 h2) (q1.heapTo s1 (fun b hb=>q3 b (s2 b hb)))
    ·
     have hle:n*i.size+m.length*i.size<=cs.size:=by
      have:(n+m.length)*i.size<=cap*i.size:=Nat.mul_le_mul_right _ (by omega);rw[Nat.add_mul] at this;omega
     obtain⟨w',cs',r1,st,hat⟩:=xE (P:=P) news w b0 (n*i.size) 0 cs E2 p5 (by omega) s2.one;simp only[Nat.add_zero] at hat;have hrun:(Builtin.append_ #[t,t] o.type #[ac.eval x,ac.eval y]).run P w = .ok (.slice (some ⟨b0,0,none⟩) (n+m.length) cap) w':=by
      have hcc:=s2.cells;have hln:=s2.len;have hroom:n+m.length<=cap:=by omega
      rw[hv];simp[Builtin.append_,run_underlying k1,xO k5,hln,hroom,hcc,Addr.add_at,r1]
     refine zU (exec _ _ hrun) ?_;rw[hd];have hset:=hR.setHeap hj st (p6.piece (off:=n*i.size) hcells (by rw[hll,yO hu];rw[hcs] at hle;exact hle) hat);have h2:=hset.put (hdn d hd) (x := .v (.lit (.slice (some ⟨b0,0,none⟩) (n+m.length) cap))) (v := .slice (some ⟨b0,0,none⟩) (n+m.length) cap) (Rep.lit _ rfl);have hkk:=h b0 cap (l.drop (n*i.size+m.length*i.size)) (by omega) (by
      rw[List.length_drop,hll,<-Nat.add_mul,Nat.sub_mul])
     refine hK _ g _ w' hkk ?_;have es:setAt l (n*i.size) (m.flatMap AV.cells)=l.take (n*i.size)++(m.flatMap AV.cells++l.drop (n*i.size+m.length*i.size)):=by
      unfold setAt;rw[yO hu]
     rw[es] at h2;exact h2
   ·exact h.elim
  ·exact h.elim
 ·exact h.elim
end
section
variable {P:Program} {hp:Bool} {arr:Array Oper} {o:Oper} {e:Env} {k:List U->Prop} {T:TT}
theorem zMB {z:Array Value} {s:Nat} (hs:z.size=s):∀n:Nat,(madeCells z (n*s)).toList=(List.replicate n z.toList).flatten
 | 0=>by simp[madeCells]
 | n+1=>by
  have ih:=zMB hs n;simp only[madeCells,Array.toList_map,Array.toList_range] at ih⊢;rw[Nat.succ_mul,List.range_add,List.map_append,ih,List.map_map];rw[List.replicate_succ',List.flatten_append]
  congr 1
  simp only[List.flatten_cons,List.flatten_nil,List.append_nil];refine List.ext_getElem (by simp[hs]) fun i h1 h2=>?_;simp at h1;have hi:i<z.size:=by omega
  have hm:(n*s+i) % s=i:=by rw[Nat.mul_comm,Nat.mul_add_mod,Nat.mod_eq_of_lt h1]
  simp[hs,hm,getElem!_pos z i hi]
theorem zZW (hT:zN P T) {q:Nat} {i:TypeInfo} {z:Value} {zs:List AV} (hi:P.info? q=some i) (hz:i.zero=some z) (h:zN1 T q=some zs) {F:Nat->Option Nat} {w:World}:RepCells F w z.cells.toList zs:=by
 have one:∀a:AV,a.zok=true->Rep F w a.zv (wk1 a)/\(wk1 a).isCell=true:=fun a ha=>by
  cases a with
  | lit v =>
   cases v<;>first|exact⟨.lit _ ha,ha⟩|exact⟨.sb _,rfl⟩
  | nil=>exact⟨.slNil,rfl⟩
  | _=>simp[AV.zok] at ha
 have hk:=find_ok hT q;unfold zN1 at h;split at h
 ·rename_i zz hf;rw[hf] at hk;obtain⟨d,i',k1,k2,k3,k4,k5,k6⟩:=hk;rw[hi] at k3;injection k3 with k3
  subst k3;rw[hz] at k5;injection k5 with k5
  subst k5;injection h with h
  subst h;obtain⟨r1,r2⟩:=one zz k6;have hc:=r1.cells (fun l hl=>by rw[hl] at r2;cases r2);have:(wk1 zz).cells=[wk1 zz]:=by cases hh:wk1 zz<;>first|rfl|(rw[hh] at r2;cases r2)
  rw[this] at hc;exact hc
 ·rename_i n offs fts zl hf;rw[hf] at hk;obtain⟨fs,i',k1,k2,k3,k4,k5,k6,_⟩:=hk;rw[hi] at k2;injection k2 with k2
  subst k2;rw[hz] at k4;injection k4 with k4
  subst k4;injection h with h
  subst h;refine⟨by simp[Value.cells],fun j u c hu hc=>?_⟩;simp only[Value.cells,List.getElem?_map] at hu hc;cases hj:zl[j]? with
  | none=>rw[hj] at hc;simp at hc
  | some a =>
   rw[hj] at hu hc;simp at hu hc;subst hu;subst hc;exact one a (List.all_eq_true.1 k5 a (List.mem_of_getElem? hj))
 ·rename_i E esz hf;rw[hf] at hk;obtain⟨it,i',z',k1,k2,k3,k4,_⟩:=hk;rw[hi] at k2;injection k2 with k2
  subst k2;rw[hz] at k4;injection k4 with k4
  subst k4;injection h with h
  subst h;exact Rep.cells (F:=F) (w:=w) (v := .slice none 0 0) (a := .sl []) .slNil (fun l hl=>by cases hl)
 ·rename_i kk ee hf;rw[hf] at hk;obtain⟨k1,i',k2,k3,k4⟩:=hk;rw[hi] at k2;injection k2 with k2
  subst k2;rw[hz] at k4;injection k4 with k4
  subst k4;injection h with h
  subst h;exact Rep.cells (F:=F) (w:=w) (v := .map none) (a := .lit (.map none)) (.lit _ rfl) (fun l hl=>by cases hl)
 ·cases h
theorem RepCells.flat {F:Nat->Option Nat} {w:World} {cs:List Value} {l:List AV} (h:RepCells F w cs l):∀n:Nat,RepCells F w (List.replicate n cs).flatten (List.replicate n l).flatten
 | 0=>⟨rfl,fun j u c hu=>by simp at hu⟩
 | n+1=>by rw[List.replicate_succ,List.replicate_succ,List.flatten_cons,List.flatten_cons];exact h.append (h.flat n)
theorem zUG (hT:zN P T) {t:TypeId} {lo co:Operand} (ho:o.op = .makeSlice t lo co)
  (h:match zB1 e lo,zB1 e co,find T t,o.dst with
   | some l,some c,.sl q _,some d=>match zN1 T q with
    | some zs=>hp=true/\0<=l/\l<=c/\c<=4294967296/\∀b,k [.val d (.v (.lit (.slice (some ⟨b,0,none⟩) l.toNat c.toNat))),.clr d,.heap (e.heap++[(b,HO.cells (List.replicate c.toNat zs).flatten)])]
    | none=>False
   | _,_,_,_=>False):hp=true/\∀cx g a w,(∀d,o.dst=some d->d<cx.n)->Rel cx g e a w->∀(K:Act->World->Prop) (Q:Exit->Act->World->Prop),
  (∀u g' a' w',k u->Rel cx g' (app e u) a' w'->K a' w')->o.wp P a w K Q:=by
 split at h
 ·rename_i l c q esz d hl hc hf hd;split at h
  ·rename_i zs hzs;obtain⟨rfl,h0,h1,h2,hk⟩:=h;refine⟨rfl,fun cx g ac w hdn hR K Q hK=>?_⟩;have hko:=find_ok hT t;rw[hf] at hko;obtain⟨it,i,z,k1,k2,k3,k4,k5,k6,k7,k8,k9,k10,k11,k12⟩:=hko;obtain⟨q1,hq1⟩:=qG (Agree.refl (zJ lo) e) hR (Sub.refl _) hl;obtain⟨q2,hq2⟩:=qG (Agree.refl (zJ co) e) hR (Sub.refl _) hc;have hrun:=run_make (P:=P) w t q i z k1 k5 k7 q1 q2 l c h0 h1 (by
    have:(i.bytes:Int)*c<=32768*4294967296:=Int.mul_le_mul (by omega) h2 (by omega) (by omega);omega) (by omega)
   have hz:=(zZW (P:=P) hT k5 k7 hzs (F:=g.F) (w:=w)).flat c.toNat;have hnew:(w.alloc (.cells (madeCells z.cells (c.toNat*i.size)) q)).heap[w.heap.size]? = some (.cells (madeCells z.cells (c.toNat*i.size)) q):=World.heap_alloc_new w _;have hml:(madeCells z.cells (c.toNat*i.size)).toList=(List.replicate c.toNat z.cells.toList).flatten:=zMB (by rw[k8,k6]) c.toNat;rw[<-hml] at hz;obtain⟨g',r1,r2,r3⟩:=hR.newBlock' (Grow.alloc w _) hnew hz (hdn d hd) (x := .slice (some ⟨w.heap.size,0,none⟩) l.toNat c.toNat) rfl;refine zU (v := .slice (some ⟨w.heap.size,0,none⟩) l.toNat c.toNat) (w':=w.alloc (.cells (madeCells z.cells (c.toNat*i.size)) q)) ?_ ?_
   ·unfold execOp;simp only[ho,hq1,hq2,Sem.run_bind,hrun,Result.andThen_ok,Sem.run_pure]
   ·rw[hd];exact hK _ g' _ _ (hk w.heap.size) (r1.heapTo r2 r3)
  ·exact h.elim
 ·exact h.elim
end
section
variable {P:Program} {hp:Bool} {arr:Array Oper} {o:Oper} {e:Env} {k:List U->Prop} {T:TT}
def zQC (P:Program) (o:Oper) (e:Env) (k:List U->Prop):Prop :=
 ∀cx g a w,(∀d,o.dst=some d->d<cx.n)->Rel cx g e a w->∀(K:Act->World->Prop) (Q:Exit->Act->World->Prop),
  (∀u g' a' w',k u->Rel cx g' (app e u) a' w'->K a' w')->o.wp P a w K Q
theorem Does.text (h:Does P hp arr o e k):zQC P o e k:=fun cx g a w hd hR K Q hK=>by
 obtain⟨u,h1,_,h3⟩:=h;exact h1 cx e g a w hd (Agree.refl _ _) hR K Q fun g' a' w'=>hK u g' a' w' h3
theorem zUN {c:Call} {f:Operand} (ho:o.op = .call c) (hc:c.callee = .value f) {fv:Value} (hf:opd e f = .v (.lit fv)) (h:zB4 P hp o fv c.args.toList e k) :
  Does P hp arr o e k∨(hp=true/\zQC P o e k):=by
 have hs:Sub (zJ f ||| zG c.args.toList) (rd arr.toList hp o):=by
  unfold rd;rw[ho];simp only[hc];exact (Sub.or Sub.inl (Sub.trans Sub.inl Sub.inr)).trans Sub.inr
 unfold zB4 at h;cases ha:opds e c.args.toList with
 | none=>rw[ha] at h;exact h.elim
 | some args =>
  rw[ha] at h;rcases h with⟨r,h1,h2⟩|⟨h0,is,hin,os,post,q1,q2,q3,q4,q5⟩
  ·left
   refine⟨putU o.dst (.v r),fun cx e' g a w hd hag hR K Q hK=>?_,by rw[zZ];exact zI5 o,h2⟩;have hos:∀(e:Env) (l:List Operand),wR e l []=true:=fun e l=>by cases l<;>rfl
   have hlo:∀l:List Operand,lose l []=[]:=fun l=>by
    cases l with
    | nil=>rfl
    | cons a r=>cases a<;>rfl
   refine zDQ hag hR ho hc hs.or_left hs.or_right hd hf ha (is:=[]) (os:=[]) (hin:=[]) rfl List.nodup_nil (hos _ _) h1 fun r' n hout g' a' w' hpost hR'=>?_;obtain⟨rfl,rfl,rfl⟩:=hpost;refine hK g' a' w' ?_;rw[hlo,List.nil_append] at hR';have:app e' (putU o.dst (.v r')++(zBX o.dst 0++[.heap (yF [] e'.heap++[])]))=app e' (putU o.dst (.v r')):=by
    have hdr:yF [] e'.heap++[]=e'.heap:=by rw[List.append_nil];exact jH 0 _
    rw[hdr];cases o.dst with
    | none=>rfl
    | some d =>
     refine Env.ext' (fun _=>rfl) (fun s c=>?_) (fun _=>rfl) rfl;show (bif Nat.beq s d && Nat.beq c 0 then 0 else bif Nat.beq s d then 0 else e'.own s c)=(bif Nat.beq s d then 0 else e'.own s c);cases Nat.beq s d<;>cases Nat.beq c 0<;>rfl
   rw[this] at hR';exact hR'
  ·refine .inr ⟨h0,fun cx g a w hd hR K Q hK=>?_⟩;refine zDQ (Agree.refl (rd arr.toList hp o) e) hR ho hc hs.or_left hs.or_right hd hf ha q1 q2 q3 q4 fun r n hout g' a' w' hpost hR'=>hK _ g' a' w' (q5 r n hout hpost) hR'
theorem zWH {x:Operand} (ho:o.op = .move x) (h:zHB arr.toList o x e k):Does P hp arr o e k:=by
 refine zHV (fun a w=>by unfold execOp;simp only[ho];rfl) ?_ (fun hh=>?_) (fun hh=>?_) h
 ·unfold rd;rw[ho];exact Sub.trans Sub.inl Sub.inr
 ·unfold rd;rw[ho];simp only[hh,cond_true];exact Sub.trans Sub.inr Sub.inr
 ·unfold wr;rw[ho];simp only[hh,cond_true];exact Sub.inr
theorem zPA {x:Operand} (ho:o.op = .assign x) (h:zHB arr.toList o x e k):Does P hp arr o e k:=by
 refine zHV (fun a w=>by unfold execOp;simp only[ho];rfl) ?_ (fun hh=>?_) (fun hh=>?_) h
 ·unfold rd;rw[ho];exact Sub.trans Sub.inl Sub.inr
 ·unfold rd;rw[ho];exact Sub.trans Sub.inr Sub.inr
 ·unfold wr;rw[ho];exact Sub.inr
theorem zNH (hT:zN P T) {c:Call} (ho:o.op = .call c) {b:Builtin} (hc:c.callee = .builtin b) (h:zGI T hp o b c.argTypes.toList c.args.toList e k):Does P hp arr o e k∨(hp=true/\zQC P o e k):=by
 unfold zGI at h;split at h
 ·rename_i t ts x hts hx;exact .inl (z0A hT ho hc hts hx h)
 ·rename_i t t' x y hts hx;split at h
  ·rename_i hb;have:=Nat.eq_of_beq_eq_true hb;subst this;split at h
   ·rename_i A n cap hxa;exact .inr ⟨h.1,zXR hT ho hc hts hx hxa h.2⟩
   ·exact .inl (zP1 hT ho hc hts hx h)
  ·exact h.elim
 ·exact .inl (zY3 ho hc h)
 ·exact .inl (zXU ho hc h)
 ·exact h.elim
theorem zT8 (hT:zN P T) (h:ay P T hp arr.toList o e k):Does P hp arr o e k∨(hp=true/\zQC P o e k):=by
 unfold ay at h;split at h
 ·rename_i ho;exact .inl (zWH ho h)
 ·rename_i ho;exact .inl (zPA ho h)
 ·rename_i ho;exact .inl (zZ6 ho h)
 ·rename_i ho;exact .inl (zRI hT ho h)
 ·rename_i ho;exact .inl (zKB hT ho h)
 ·rename_i ho;exact .inl (zGK hT ho h)
 ·rename_i ho;cases hd:o.dst with
  | none=>rw[hd] at h;exact .inl (zR1 hT ho hd h)
  | some d=>rw[hd] at h;exact h.elim
 ·rename_i ho;exact .inl (zSI hT ho h)
 ·rename_i ho;exact .inl (zYP ho h)
 ·rename_i ho;exact .inl (zYO ho h)
 ·rename_i ho;exact .inl (zM8 hT ho h)
 ·rename_i ho;exact .inl (zN4 ho h)
 ·rename_i ho;exact .inl (zRQ hT ho h)
 ·rename_i ho;exact .inl (zS2 hT ho h)
 ·rename_i ho;exact .inl (zHZ hT ho h)
 ·rename_i ho;exact .inl (zJA hT ho h)
 ·rename_i ho;exact .inl (zS1 hT ho h)
 ·rename_i ho;exact .inl (zSQ hT ho h)
 ·rename_i ho;exact .inl (zVM ho h)
 ·rename_i ho;exact .inl (zLB ho h)
 ·rename_i ho;exact .inl (zK7 ho h)
 ·rename_i ho;exact .inr (zUG hT ho h)
 ·rename_i c ho;cases hc:c.callee with
  | value f =>
   rw[hc] at h;simp only[] at h;split at h
   ·rename_i fv hf;exact zUN ho hc hf h
   ·exact h.elim
  | builtin b=>rw[hc] at h;exact zNH hT ho hc h
  | _=>rw[hc] at h;exact h.elim
 ·exact h.elim
theorem zDR (hT:zN P T) (h:ay P T false arr.toList o e k):Does P false arr o e k:=(zT8 hT h).elim id fun h=>by cases h.1
theorem zTU (hT:zN P T) (h:ay P T hp arr.toList o e k):zQC P o e k:=(zT8 hT h).elim Does.text fun h=>h.2
end
end Fp
