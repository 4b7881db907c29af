/- Appending to a slice whose block is known, wherever in it the slice begins. No condition. -/
import Derived.Test.YtebmimnglcdogaaGreatDoorFpK
import Derived.OpenShut
set_option linter.unusedSimpArgs false
set_option linter.unusedVariables false
namespace Fp
open Go Go.MapKept
def z4X:SV->Option (Option Addr×Nat×Nat)
 | .v .nil=>some (none,0,0)
 | .v (.lit (.slice A n cap))=>some (A,n,cap)
 | _=>none
section
variable {P:Program} {o:Oper} {T:TT}
def zY9 (n b' cap' d:Nat) (m old zs:List AV) (h:List (Nat×HO)):List U:=[.val d (.v (.lit (.slice (some ⟨b',0,none⟩) (n+m.length) cap'))),.clr d,.heap (h++[(b',HO.cells (old++(m.flatMap AV.cells++zs)))])]
def zXD (n b' cap' d i:Nat) (m old zs:List AV) (h:List (Nat×HO)):List U:=[.val d (.v (.lit (.slice (some ⟨b',0,none⟩) (n+m.length) cap'))),.clr d,.heap (h.set i (b',HO.cells (old++(m.flatMap AV.cells++zs))))]
def z3M (n b off cap esz d i:Nat) (m l:List AV) (h:List (Nat×HO)):List U:=[.val d (.v (.lit (.slice (some ⟨b,off,none⟩) (n+m.length) cap))),.clr d,.heap (h.set i (b,HO.cells (setAt l (off+n*esz) (m.flatMap AV.cells))))]
def apK (A:Option Addr) (n cap esz:Nat) (m:List AV) (d:Nat) (h:List (Nat×HO)) (k:List U->Prop):Prop:=match A with
 | none=>n=0/\cap=0/\∀b' cap' zs,m.length<=cap'->zs.length=(cap'-m.length)*esz->k (zY9 0 b' cap' d m [] zs h)
 | some ⟨b,off,none⟩ => ∃(i:Nat) (l:List AV),h[i]? = some (b,HO.cells l)/\n<=cap/\off+cap*esz<=l.length /\
   (cap<n+m.length->∀b' cap' zs,n+m.length<=cap'->zs.length=(cap'-(n+m.length))*esz->k (zXD n b' cap' d i m ((l.drop off).take (n*esz)) zs h)) /\
   (n+m.length<=cap->k (z3M n b off cap esz d i m l h))
 | _=>False
def zZF (P:Program) (T:TT) (o:Oper) (c:CE) (k:CE->Prop):Prop:=match o.guard,o.op with
 | none,.call cl=>match cl.callee with
  | .builtin .append=>match cl.argTypes.toList,cl.args.toList with
   | [t,t2],[x,y]=>match Nat.beq t t2,find T t,z4X (opd (den c) x),opd (den c) y,o.dst with
    | true,.sl _ esz,some (A,n,cap),.v yb,some d=>match wk yb with
     | .sl m=>m≠[]/\n+m.length<=4294967296/\Uni esz m/\apK A n cap esz m d c.hp (fun u=>k (capp c u))
     | _=>False
    | _,_,_,_,_=>False
   | _,_=>False
  | _=>False
 | _,_=>False
theorem RepCells.dropN {F:Nat->Option Nat} {w:World} {cs:List Value} {l:List AV} (h:RepCells F w cs l) (n:Nat):RepCells F w (cs.drop n) (l.drop n) :=
 ⟨by simp[h.1],fun j u c hu hc=>h.2 (n+j) u c (by rw[List.getElem?_drop] at hu;exact hu) (by rw[List.getElem?_drop] at hc;exact hc)⟩
theorem zPD {cx:Ctx} {g:G} {e e':Env} {a:Act} {w:World} {m:Nat} (hag:Agree m e e') (hR:Rel cx g e' a w) {x:Operand} (hx:Sub (zJ x) m) {A:Option Addr} {n cap:Nat} (h:z4X (opd e x)=some (A,n,cap)):a.eval x = .slice A n cap:=by
 unfold z4X at h;split at h
 ·rename_i ho;injection h with h;injection h with h1 h2;injection h2 with h2 h3
  subst h1;subst h2;subst h3;exact (zF hag hR hx ho).nil_eq
 ·rename_i A' n' cap' ho;injection h with h;injection h with h1 h2;injection h2 with h2 h3
  subst h1;subst h2;subst h3;exact (zF hag hR hx ho).lit_eq.1
 ·cases h
theorem zCW (hT:zN P T):OASpec P (zZF P T):=by
 intro o c k h;unfold zZF at h;split at h
 ·rename_i cl hg ho;split at h
  ·rename_i hc;split at h
   ·rename_i t t2 x y hts hxs;split at h
    ·rename_i E esz A n cap yb d htt hf hsl hyb hd;have htt:=Nat.eq_of_beq_eq_true htt;subst htt;split at h
     ·rename_i m hwb;obtain⟨hne,hbig,hu,hk⟩:=h;have hk0:=find_ok hT t;rw[hf] at hk0;obtain⟨it,i,z,k1,k2,k3,k4,k5,k6,k7,k8,k9,k10,k11,k12⟩:=hk0;subst k6;have hrd:zAX o=(zG cl.args.toList ||| 8):=by unfold zAX;simp only[ho,hc]
      have hrx:Sub (zJ x) (zAX o):=by rw[hrd,hxs];exact Sub.trans Sub.inl Sub.inl
      have hry:Sub (zJ y) (zAX o):=by rw[hrd,hxs];exact Sub.trans (Sub.trans Sub.inl Sub.inr) Sub.inl
      have hr8:Sub 8 (zAX o):=by rw[hrd];exact Sub.inr
      have wrs:∀(v:SV) (h:List (Nat×HO)),Sub (wrU [.val d v,.clr d,.heap h]) (zE8 o):=fun v h=>by
       unfold zE8 yI;rw[hd];simp only[wrU];exact .or (Sub.trans Sub.inl Sub.inl) (.or (Sub.trans Sub.inr Sub.inl) (.or (Sub.trans Sub.inl Sub.inr) (Sub.zero _)))
      have ha:=qK hxs;have htt:=qM hts;have exec:∀(ac:Act) w v' w',(Builtin.append_ #[t,t] o.type #[ac.eval x,ac.eval y]).run P w = .ok v' w'->(execOp ac.eval o).run P w = .ok (.value v') w':=fun ac w v' w' hr=>by
       obtain⟨cs,hex⟩:=yH (ρ:=ac.eval) ho hc;rw[hex,ha,htt];simp only[builtin,List.map_toArray,List.map_cons,List.map_nil,Sem.run_bind,hr,Result.andThen_ok,Sem.run_pure]
      have hpos:0<m.length:=List.length_pos_iff.2 hne;have grow:∀{cx:Ctx} {e':Env} {g:G} {ac:Act} {w:World},(∀d',o.dst=some d'->d'<cx.n)->Agree (zAX o) (den c) e'->Rel cx g e' ac w->∀{K:Act->World->Prop} {Q:Exit->Act->World->Prop} (A:Option Addr) (n cap:Nat) (olds:List Value) (ol:List AV),n+m.length<=4294967296->cap<n+m.length->(Builtin.firstCells i.size n (.slice A n cap)).run P w.drew = .ok olds.toArray w.drew->RepCells g.F w olds ol->olds.length=n*i.size->ac.eval x = .slice A n cap ->
        (∀b' cap' zs,n+m.length<=cap'->zs.length=(cap'-(n+m.length))*i.size->∀g' a' w',Rel cx g' (app e' [.val d (.v (.lit (.slice (some ⟨b',0,none⟩) (n+m.length) cap'))),.clr d]) a' w' ->
         HeapIn g'.F w' (e'.heap++[(b',HO.cells (ol++(m.flatMap AV.cells++zs)))])->(∀q∈keys (e'.heap++[(b',HO.cells (ol++(m.flatMap AV.cells++zs)))]),g'.O q = .obj)->K a' w')->o.wp P ac w K Q:=fun {cx e' g ac w} hdn hag hR {K Q} A n cap olds ol hbig hg hfirst hol holl hv hfin=>by
       have hm:=wG (zF hag hR hry hyb);rw[hwb] at hm;obtain⟨news,ad2,cap2,hv2,s2,f2,r2⟩:=wL k1 hm hu;have hnl:=s2.newsLen;have hcells:=zB5 k10 hu hnl r2;have hfit:Builtin.nextslicecap (n+m.length) cap*i.bytes<=281474976710656:=growslice_fits hg (by
        have:(n+m.length)*i.bytes<=4294967296*32768:=Nat.mul_le_mul hbig k12;omega)
       have hrun:=run_append_grow_src (P:=P) w t t o.type E i z k1 k5 k7 A n cap olds hfirst (ac.eval y) m.length news s2 hg (by omega) hfit;have hcap':n+m.length<=grownCap w (n+m.length) cap E:=grownCap_ge w _ _ _;rw[<-hv] at hrun;refine zU (exec _ _ _ _ hrun) ?_;rw[hd];have hz:RepCells g.F w (((olds++news).toArray++Builtin.zeroCells z.cells (grownCap w (n+m.length) cap E-(n+m.length))).toList) (ol++(m.flatMap AV.cells++(Builtin.zeroCells z.cells (grownCap w (n+m.length) cap E-(n+m.length))).toList.map AV.lit)):=by
        rw[Array.toList_append,List.toList_toArray,List.append_assoc];exact hol.append (hcells.append (zB7 k9 _))
       obtain⟨g',q1,q2,q3⟩:=hR.newBlock (E:=E) hz (hdn d hd) (n:=n+m.length) (cap:=grownCap w (n+m.length) cap E);exact hfin _ _ _ hcap' (by simp[Builtin.zeroCells,k8]) g' _ _ q1 q2 q3
      unfold apK at hk;split at hk
      ·obtain⟨rfl,rfl,hk⟩:=hk;refine⟨fun u => ∃b' cap' zs,m.length<=cap'/\zs.length=(cap'-m.length)*i.size/\u=zY9 0 b' cap' d m [] zs c.hp,hg,⟨_,0,m.length,[],Nat.le_refl _,by simp,rfl⟩,fun cx e' g ac w hdn hag hR K Q hK=>?_,?_⟩
       ·have hheap:c.hp=e'.heap:=hag.heap (hr8 3 (by decide));refine grow hdn hag hR none 0 0 [] [] hbig (by omega) (by simp[Builtin.firstCells]) ⟨rfl,fun j u c hu=>by simp at hu⟩ (by simp) (zPD hag hR hrx hsl) fun b' cap' zs h1 h2 g' a' w' q1 q2 q3=>?_;have h1':m.length<=cap':=by omega
        have h2':zs.length=(cap'-m.length)*i.size:=by rw[h2,Nat.zero_add]
        refine hK _ ⟨b',cap',zs,h1',h2',rfl⟩ g' a' w' ?_;unfold zY9;rw[hheap];exact q1.heapTo q2 q3
       ·rintro u ⟨b',cap',zs,h1,h2,rfl⟩;exact⟨wrs _ _,hk b' cap' zs h1 h2⟩
      ·rename_i b off;obtain⟨j,l,hj,hnc,hll,hk1,hk2⟩:=hk;refine⟨fun u=>(cap<n+m.length/\∃b' cap' zs,n+m.length<=cap'/\zs.length=(cap'-(n+m.length))*i.size/\u=zXD n b' cap' d j m ((l.drop off).take (n*i.size)) zs c.hp)∨(n+m.length<=cap/\u=z3M n b off cap i.size d j m l c.hp),hg,?_,fun cx e' g ac w hdn hag hR K Q hK=>?_,?_⟩
       ·rcases Nat.lt_or_ge cap (n+m.length) with hg|hg
        ·exact⟨_,.inl ⟨hg,0,n+m.length,[],Nat.le_refl _,by simp,rfl⟩⟩
        ·exact⟨_,.inr ⟨hg,rfl⟩⟩
       ·have hheap:c.hp=e'.heap:=hag.heap (hr8 3 (by decide));have hj':e'.heap[j]? = some (b,HO.cells l):=by rw[<-hheap];exact hj
        obtain⟨cs,E2,p5,p6⟩:=hR.heapAt hj';have hcs:cs.size=l.length:=by rw[<-p6.1];simp
        have hv:=zPD hag hR hrx hsl;by_cases hg:cap<n+m.length
        ·have hle:off+n*i.size<=cs.size:=by
          have:=Nat.mul_le_mul_right i.size hnc;omega
         have hfirst:(Builtin.firstCells i.size n (.slice (some ⟨b,off,none⟩) n cap)).run P w.drew = .ok ((cs.toList.drop off).take (n*i.size)).toArray w.drew:=by
          have:=run_loadCells_list (P:=P) w.drew ⟨b,off,none⟩ ((cs.toList.drop off).take (n*i.size)) (fun q v hq=>by
           rw[List.getElem?_take] at hq;split at hq
           ·rw[List.getElem?_drop] at hq;rw[Addr.add_at];show w.cell? _=_;rw[World.cell_of_cells p5,<-Array.getElem?_toList];exact hq
           ·cases hq)
          rw[List.length_take,List.length_drop,Array.length_toList,Nat.min_eq_left (by omega)] at this;simpa[Builtin.firstCells] using this
         refine grow hdn hag hR _ n cap ((cs.toList.drop off).take (n*i.size)) ((l.drop off).take (n*i.size)) hbig hg hfirst ((RepCells.dropN p6 off).take _) (by rw[List.length_take,List.length_drop,Array.length_toList];omega) hv fun b' cap' zs h1 h2 g' a' w' q1 q2 q3=>?_;refine hK _ (.inl ⟨hg,b',cap',zs,h1,h2,rfl⟩) g' a' w' ?_;unfold zXD;rw[hheap];obtain⟨s1,s2⟩:=zMP hj' q2;exact q1.heapTo s1 (fun b hb=>q3 b (s2 b hb))
        ·have hm:=wG (zF hag hR hry hyb);rw[hwb] at hm;obtain⟨news,ad2,cap2,hv2,s2,f2,r2⟩:=wL k1 hm hu;have hnl:=s2.newsLen;have hcells:=zB5 k10 hu hnl r2;have hle:off+n*i.size+m.length*i.size<=cs.size:=by
          have:(n+m.length)*i.size<=cap*i.size:=Nat.mul_le_mul_right _ (by omega);rw[Nat.add_mul] at this;omega
         obtain⟨w',cs',r1,st,hat⟩:=xE (P:=P) news w b (off+n*i.size) 0 cs E2 p5 (by omega) s2.one;simp only[Nat.add_zero] at hat;have hrun:(Builtin.append_ #[t,t] o.type #[ac.eval x,ac.eval y]).run P w = .ok (.slice (some ⟨b,off,none⟩) (n+m.length) cap) w':=by
          have hcc:=s2.cells;have hln:=s2.len;have hroom:n+m.length<=cap:=by omega
          rw[hv];simp[Builtin.append_,run_underlying k1,xO k5,hln,hroom,hcc,Addr.add_at,r1]
         refine zU (exec _ _ _ _ hrun) ?_;rw[hd];have hset:=hR.setHeap hj' st (p6.piece (off:=off+n*i.size) hcells (by rw[yO hu];rw[hcs] at hle;exact hle) hat);have h2:=hset.put (hdn d hd) (x := .v (.lit (.slice (some ⟨b,off,none⟩) (n+m.length) cap))) (v := .slice (some ⟨b,off,none⟩) (n+m.length) cap) (Rep.lit _ rfl);refine hK _ (.inr ⟨by omega,rfl⟩) g _ w' ?_;unfold z3M;rw[hheap];exact h2
       ·rintro u (⟨hg,b',cap',zs,h1,h2,rfl⟩|⟨hg,rfl⟩)
        ·exact⟨wrs _ _,hk1 hg b' cap' zs h1 h2⟩
        ·exact⟨wrs _ _,hk2 hg⟩
      ·exact hk.elim
     ·exact h.elim
    ·exact h.elim
   ·exact h.elim
  ·exact h.elim
 ·exact h.elim
end
section
variable {P:Program}
theorem zWJ {a:AV} (h:a.isCell=true):(wk a).isCell=true:=by
 cases a with
 | lit v=>cases v<;>exact h
 | agg l=>cases h
 | _=>exact h
theorem RepCells.wkM {F:Nat->Option Nat} {w:World} {cs:List Value} {l:List AV} (h:RepCells F w cs l):RepCells F w cs (l.map Fp.wk) :=
 ⟨by simp[h.1],fun j u c hu hc=>by
  rw[List.getElem?_map] at hc;cases hl:l[j]? with
  | none=>rw[hl] at hc;cases hc
  | some a =>
   rw[hl] at hc;injection hc with hc
   subst hc;exact⟨wG (h.2 j u a hu hl).1,zWJ (h.2 j u a hu hl).2⟩⟩
end
section
variable {P:Program} {B:Ctx->Prop} {rd:Option Nat}
end
section
variable {P:Program} {T:TT}
theorem WsemM.seq (hT:zN P T) (hm:P.follows .mixedOrders=true) {p q:Code} {c:CE} {n:CE->Prop} {x:Nat->CE->Prop} {r:CE->Prop} (h:WcX P T p c (fun c'=>MK c.hp c'.hp/\WsemM P q c' n x r) (fun i c'=>MK c.hp c'.hp/\x i c') (fun c'=>MK c.hp c'.hp/\r c')):WsemM P (.seq p q) c n x r:=WsemM.seqS (WsemM.of (WsemB.of hT hm h))
theorem MK.nil (h:List (Nat×HO)):MK [] h:=fun D h=>by simp at h
theorem MK.refl (h:List (Nat×HO)):MK h h:=fun _ h=>h
end
section
variable {P:Program} {T:TT}
end
open Go Go.ChangeShapes Go.WideShapes Go.RowKit
section
variable {H:Type} {enc:TypeId×Value->H} {P:Program}
end
end Fp
