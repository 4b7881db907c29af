/- Code that panics with one value: contracts of calls that do; regions in the text's row. No condition. -/
import Derived.Test.YtebmimnglcdogaaGreatDoorFpM
set_option linter.unusedSimpArgs false
set_option linter.unusedVariables false
namespace Fp
open Go Go.MapKept Go.RowKit
section
variable {P:Program} {T:TT} {pv:Value}
section
variable {arr:Array Oper}
end
end
section
variable {P:Program} {T:TT} {pv:Value} {arr:Array Oper}
end
section
variable {P:Program} {T:TT} {pv:Value}
end
open Go Go.MapKept
section
variable {P:Program}
def zOV (o:Oper):Nat:=match o.op with
 | .indexAddr _ (.tmp s) ix=>bV s ||| zI ix
 | _=>0
def ixS (P:Program) (o:Oper) (c:CE) (k:CE->Prop):Prop:=match o.guard,o.op with
 | none,.indexAddr t (.tmp s) ix=>match (den c).vals s with
  | .v (.ptr l)=>match opd (den c) ix with
   | .v (.lit (.int _ i)) => ∃n0 E esz,P.underlying t=some (.array n0 E)/\(∀w,(Go.sizeOf E).run P w = .ok esz w)/\0<=i/\i<n0/\k (capp c (putU o.dst (.adE (l.drop (i.toNat*esz)))))
   | _=>False
  | _=>False
 | _,_=>False
theorem zED {o:Oper} {c:CE} {k:CE->Prop} (h:ixS P o c k):∃u,o.guard=none/\RunsB P o (den c) u (zOV o)/\Sub (wrU u) (zS o.dst)/\k (capp c u):=by
 unfold ixS at h;split at h
 ·rename_i t s ix hg ho;split at h
  ·rename_i l hx;split at h
   ·rename_i kk i hi;obtain⟨n0,E,esz,ht,hsz,hi0,hin,hk⟩:=h;have hrd:zOV o=bV s ||| zI ix:=by unfold zOV;rw[ho]
    refine⟨_,hg,?_,by rw[zV];exact Sub.refl _,hk⟩;refine zAF fun cx e' g ac w hag hR=>?_;rw[hrd] at hag;have hsl:=hag.slot hR (s:=s) Sub.inl;rw[hx] at hsl;obtain⟨b,off,h1,h2⟩:=Rep.ptr_eq hsl;have h3:=(zA hag hR Sub.inr hi).lit_eq.1;refine⟨.pointer (some ⟨b,off+i.toNat*esz,none⟩),?_,fun _=>⟨b,off+i.toNat*esz,rfl,fun j c hj=>?_⟩⟩
    ·have h1':ac.eval (.tmp s) = .pointer (some ⟨b,off,none⟩):=h1;have hr:(Instr.indexAt t (.pointer (some ⟨b,off,none⟩)) (.int kk i)).run P w = .ok (.pointer (some ⟨b,off+i.toNat*esz,none⟩)) w:=by
      simp only[Instr.indexAt,Sem.run_bind,run_underlying ht,Result.andThen_ok,Instr.sureAddr,asIntOf,Sem.run_pure];rw[if_pos ⟨hi0,hin⟩];simp only[Sem.run_bind,hsz,Result.andThen_ok,Sem.run_pure];unfold Addr.add;split
      ·rename_i h0;simp[h0]
      ·rfl
     unfold execOp;simp only[ho,h1',h3,Sem.run_bind,hr,Result.andThen_ok,Sem.run_pure]
    ·rw[List.getElem?_drop] at hj;rw[Nat.add_assoc];exact h2 _ c hj
   ·exact h.elim
  ·exact h.elim
 ·exact h.elim
theorem Wsem.regionTab {T:TT} (hT:zO P T) {id:Nat} {arr:Array Oper} {o1 o2 o3:Oper} {t d1 d2:Nat} {parts:Array (Nat×Operand)} (harr:arr.toList=[o1,o2,o3]) (g1:o1.guard=none) (g2:o2.guard=none) (g3:o3.guard=none)
  (h1:o1.op = .build t parts) (h2:o2.op = .alloc t) (h3:o3.op = .store t (.tmp d2) (.tmp d1)) (e1:o1.dst=some d1) (e2:o2.dst=some d2) (e3:o3.dst=none) (hne:d1≠d2) {vs zs:Array Value} {l:List AV} {i:TypeInfo}
  (hb:∀(a:Act) (w:World),(execOp a.eval o1).run P w = .ok (.value (.agg vs)) w) (hi:P.info? t=some i) (hz:i.zero=some (.agg zs)) (hn:i.size=vs.size) (hzs:zs.size=vs.size) (hflat:(Value.agg vs).cells=vs) (hzf:(Value.agg zs).cells=zs) (hone:∀v∈vs.toList,v.oneCell'=true)
  (hr:∀(F:Nat->Option Nat) (w:World),RepCells F w vs.toList l) {us:List (Nat×SV)} {ow:List (Nat×Nat×Nat)} {al:List Nat} {hp:List (Nat×HO)} {n:CE->Prop} {x:Nat->CE->Prop} {r:CE->Prop}
  (h:n (capp (capp ⟨us.map fun p=>(p.1,rfv p.2),ow,[],hp⟩ (putU (some d1) .junk)) [.val d2 (.box 1 (.agg l)),.clr d2,.al d2])):Wsem P (.region id arr false) ⟨us,ow,al,hp⟩ n x r:=by
 intro cx hyk hk g a w hR;simp only[zZ,List.all_eq_true] at hk;have hd:∀o∈arr.toList,∀d,o.dst=some d->d<cx.n:=fun o ho d hd=>by
  have:=hk o ho;rw[hd] at this;exact Nat.le_of_ble_eq_true this
 obtain⟨g',hR'⟩:=hR.refresh;have hR2:Rel cx g' (den ⟨us.map fun p=>(p.1,rfv p.2),ow,[],hp⟩) a w:=by rw[yT ⟨us,ow,al,hp⟩];exact hR'
 have hd1:d1<cx.n:=hd o1 (by rw[harr];simp) d1 e1;have hd2:d2<cx.n:=hd o2 (by rw[harr];simp) d2 e2;have w1:∀y,Region.wanted o1 y=true:=fun y=>by unfold Region.wanted;rw[g1]
 have w2:∀y,Region.wanted o2 y=true:=fun y=>by unfold Region.wanted;rw[g2]
 have w3:∀y,Region.wanted o3 y=true:=fun y=>by unfold Region.wanted;rw[g3]
 have r2:∀(a:Act) (w:World),(execOp a.eval o2).run P w = .ok (.value (.pointer (some ⟨w.heap.size,0,none⟩))) (w.alloc (.cells zs t)):=fun a w=>by
  unfold execOp;simp only[h2,Instr.alloc,newVar,newRow,Sem.run_bind,zEX hi hz,run_newObj,Sem.run_pure,Result.andThen_ok,World.alloc_eq,hzf]
 obtain⟨w',cs',q1,q2,q3⟩:=yN (P:=P) vs.toList (w.alloc (.cells zs t)) w.heap.size 0 0 zs t (World.heap_alloc_new w _) (by simp[hzs]) hone;have hcs:cs'=vs:=by
  apply Array.ext
  ·rw[q3.1,hzs]
  ·intro k hk1 hk2;have:=q3.2 k;rw[if_pos (by simp;omega)] at this;rw[Array.getElem?_eq_getElem hk1] at this;simp only[Nat.add_zero,Nat.sub_zero,Array.getElem?_toList,Array.getElem?_eq_getElem hk2] at this;exact Option.some.inj this
 subst hcs;have hgrow:Grow w w':=⟨q2.os,q2.tape,q2.output,by rw[q2.size];simp,fun b hb=>by rw[q2.block b (by omega)];exact World.heap_alloc_lt w _ hb⟩
 have hR2':=hR2.putU (d:=some d1) (x := .junk) (v := .agg cs') (fun d h=>by injection h with h;omega) (fun d=>trivial);rw[<-zT] at hR2';have hal:(den (capp ⟨us.map fun p=>(p.1,rfv p.2),ow,[],hp⟩ (putU (some d1) .junk))).al d2=false:=rfl;obtain⟨g2,hR3⟩:=hR2'.newBox (x := .agg l) (d:=d2) hd2 hal hgrow (Nat.le_refl _) q2.now (hr g'.F w);rw[<-zT] at hR3;refine wp_region_list ?_;rw[harr];unfold wpList;rw[if_pos (w1 _)];refine .inl ?_;unfold Oper.wp;rw[hb,Oper.upon_value,e1];unfold wpList;rw[if_pos (w2 _)];refine .inl ?_;unfold Oper.wp;rw[r2,Oper.upon_value,e2];unfold wpList;rw[if_pos (w3 _)];refine .inl ?_;have hsz:a.tmps.size=cx.n:=hR.size;have v1:((a.put (some d1) (.agg cs')).put (some d2) (.pointer (some ⟨w.heap.size,0,none⟩))).eval (.tmp d1) = .agg cs':=by
  simp[Act.eval,Act.put,hne,Ne.symm hne,hsz,hd1,hd2]
 have v2:((a.put (some d1) (.agg cs')).put (some d2) (.pointer (some ⟨w.heap.size,0,none⟩))).eval (.tmp d2) = .pointer (some ⟨w.heap.size,0,none⟩):=by
  simp[Act.eval,Act.put,hne,Ne.symm hne,hsz,hd1,hd2]
 have r3:(execOp ((a.put (some d1) (.agg cs')).put (some d2) (.pointer (some ⟨w.heap.size,0,none⟩))).eval o3).run P (w.alloc (.cells zs t)) = .ok .skip w':=by
  refine jP h3 v2 ?_;rw[v1];have hso:(Go.sizeOf t).run P (w.alloc (.cells zs t)) = .ok cs'.size (w.alloc (.cells zs t)):=by rw[yI hi,hn]
  simp only[Instr.storeAt,Instr.sureAddr,Sem.run_bind,Sem.run_pure,Result.andThen_ok,storeVar,hso,hflat];simp only[ne_eq,not_true_eq_false,if_false,q1]
 refine wp_skip r3 ?_;rw[e3];unfold wpList;exact⟨_,g2,h,hR3⟩
end
section
variable {P:Program} {arr:Array Oper}
section
variable (OA DS:Oper->CE->(CE->Prop)->Prop) (rdS:Oper->Nat) (P:Program) (T:TT) (ops:List Oper)
def zC5 (l:List Oper):List Nat->Nat->CE->List (Nat×Nat)->(CE->List (Nat×Nat)->Prop)->Prop:=List.rec (motive:=fun _=>List Nat->Nat->CE->List (Nat×Nat)->(CE->List (Nat×Nat)->Prop)->Prop)
 (fun _ _ c bs k=>match c with|⟨vs,ow,al,h⟩=>k ⟨vs,ow,al,h⟩ bs)
 (fun o _ ih fs fl c bs k=>match c with
  | ⟨vs,ow,al,h⟩=>match fs with
   | 1::fs=>OA o ⟨vs,ow,al,h⟩ fun c2=>ih fs 128 c2 (bs++[(wG o ||| fl,wC o)]) k
   | 2::fs=>DS o ⟨vs,ow,al,h⟩ fun c2=>ih fs fl c2 (bs++[(rdS o ||| fl,zS o.dst)]) k
   | _::fs=>cgk ops o ⟨vs,ow,al,h⟩ (fun c=>xR P T ops o c fun c m=>ih fs fl c (bs++[(zK ops o ||| (m.1 ||| fl),m.2)]) k) (fun c=>ih fs fl (capp c (putU o.dst .undef)) (bs++[(zK ops o ||| fl,zS o.dst)]) k)
   | []=>cgk ops o ⟨vs,ow,al,h⟩ (fun c=>xR P T ops o c fun c m=>ih [] fl c (bs++[(zK ops o ||| (m.1 ||| fl),m.2)]) k) (fun c=>ih [] fl (capp c (putU o.dst .undef)) (bs++[(zK ops o ||| fl,zS o.dst)]) k)) l
end
variable {T:TT}
theorem zF7 {OA DS:Oper->CE->(CE->Prop)->Prop} {rdS:Oper->Nat} (hOA:zAC P OA) (hDS:∀o c k,DS o c k->∃u,o.guard=none/\RunsB P o (den c) u (rdS o)/\Sub (wrU u) (zS o.dst)/\k (capp c u)) (hT:zO P T) {k:CE->List (Nat×Nat)->Prop}:∀(r:List Oper) (fs:List Nat) (fl:Nat) (c:CE) (e0:Env) (bs0:List (Nat×Nat)),zC5 OA DS rdS P T arr.toList r fs fl c bs0 k->EnvEq e0 (den c)->(fl=0∨fl=128) ->
  ∃S,SpU P arr r e0 S/\(∃us bs,S us bs)/\∀us bs,S us bs->(∀m∈bs,Sub fl m.1)/\∃c',k c' (bs0++bs)/\EnvEq (xW e0 us) (den c')
 | [],fs,fl,c,e0,bs0,h,q,_=>by
  refine⟨fun us bs=>us=[]/\bs=[],fun _ _=>Iff.rfl,⟨[],[],rfl,rfl⟩,?_⟩;rintro us bs ⟨rfl,rfl⟩;refine⟨fun m hm=>by simp at hm,c,?_,q⟩;rw[List.append_nil];cases c;exact h
 | o::r,fs,fl,c,e0,bs0,h,q,hfl0=>by
  classical
  have fin:∀(fs:List Nat) (u:List U) (m:Nat×Nat) (c1:CE),Sub fl m.1->StepB P arr o e0 u m->EnvEq (app e0 u) (den c1)->zC5 OA DS rdS P T arr.toList r fs fl c1 (bs0++[m]) k ->
    ∃S,SpU P arr (o::r) e0 S/\(∃us bs,S us bs)/\∀us bs,S us bs->(∀m∈bs,Sub fl m.1)/\∃c',k c' (bs0++bs)/\EnvEq (xW e0 us) (den c'):=fun fs u m c1 hfl hs hq hc=>by
   obtain⟨S,s1,⟨us1,bs1,s2⟩,s3⟩:=zF7 hOA hDS hT r fs fl c1 _ _ hc hq hfl0;refine⟨fun us bs => ∃us' bs',us=u::us'/\bs=m::bs'/\S us' bs',.inl ⟨u,m,S,hs,s1,fun _ _=>Iff.rfl⟩,⟨_,_,us1,bs1,rfl,rfl,s2⟩,?_⟩;rintro us bs ⟨us',bs',rfl,rfl,hs'⟩;obtain⟨p1,c',p2,p3⟩:=s3 us' bs' hs';refine⟨fun m' hm=>?_,c',by rw[List.append_assoc] at p2;exact p2,p3⟩;rcases List.mem_cons.1 hm with rfl|hm
   ·exact hfl
   ·exact p1 m' hm
  have det:∀(fs:List Nat),cgk arr.toList o c (fun c=>xR P T arr.toList o c fun c m=>zC5 OA DS rdS P T arr.toList r fs fl c (bs0++[(zK arr.toList o ||| (m.1 ||| fl),m.2)]) k) (fun c=>zC5 OA DS rdS P T arr.toList r fs fl (capp c (putU o.dst .undef)) (bs0++[(zK arr.toList o ||| fl,zS o.dst)]) k) ->
    ∃S,SpU P arr (o::r) e0 S/\(∃us bs,S us bs)/\∀us bs,S us bs->(∀m∈bs,Sub fl m.1)/\∃c',k c' (bs0++bs)/\EnvEq (xW e0 us) (den c'):=fun fs h'=>by
   obtain⟨c1,t,q1,q2,q3,q4⟩:=wY h';have q01:=q.trans q1;cases t with
   | true =>
    obtain⟨u,m,h1,h2,h3⟩:=wW (arr:=arr) hT (q3 rfl);exact fin fs u (zK arr.toList o ||| (m.1 ||| fl),m.2) _ (Sub.trans Sub.inr Sub.inr) ⟨h2,Sub.inl,.inl ⟨q2.agree (q01.agree _),(h1.sub (Sub.trans Sub.inl Sub.inr)).agree (q01.agree _)⟩⟩ (by rw[zT];exact q01.app u) h3
   | false =>
    exact fin fs (putU o.dst .undef) (zK arr.toList o ||| fl,zS o.dst) _ Sub.inr ⟨by rw[zV];exact Sub.refl _,Sub.inl,.inr ⟨q2.agree (q01.agree _),rfl⟩⟩ (by rw[zT];exact q01.app _) (q4 rfl)
  match fs with
  | []=>exact det [] (by cases c;exact h)
  | 0::fs=>exact det fs (by cases c;exact h)
  | (_+3)::fs=>exact det fs (by cases c;exact h)
  | 2::fs =>
   have h':DS o c fun c2=>zC5 OA DS rdS P T arr.toList r fs fl c2 (bs0++[(rdS o ||| fl,zS o.dst)]) k:=by cases c;exact h
   obtain⟨u,hg,h1,h2,h3⟩:=hDS _ _ _ h';exact fin fs u (rdS o ||| fl,zS o.dst) _ Sub.inr ⟨h2,by unfold zK;rw[hg];exact Sub.zero _,.inl ⟨zDU hg,(h1.sub Sub.inl).agree (q.agree _)⟩⟩ (by rw[zT];exact q.app u) h3
  | 1::fs =>
   have h':OA o c fun c2=>zC5 OA DS rdS P T arr.toList r fs 128 c2 (bs0++[(wG o ||| fl,wC o)]) k:=by cases c;exact h
   obtain⟨V,hg,hV,hO,hk⟩:=hOA o c _ h';have tr:=fun v (hv:V v)=>zF7 hOA hDS hT r fs 128 _ (app e0 v) _ (hk v hv).2 (by rw[zT];exact q.app v) (.inr rfl);refine⟨fun us bs => ∃v us' bs',V v/\us=v::us'/\bs=(wG o ||| fl,wC o)::bs'/\(∃hv:V v,(tr v hv).choose us' bs'),.inr ⟨V,(wG o ||| fl,wC o),fun v us bs => ∃hv:V v,(tr v hv).choose us bs,hg,by unfold zK;rw[hg];exact Sub.zero _,fun cx e' g a w hd hag hR=>hO cx e' g a w hd (((q.agree _).symm.trans hag).sub Sub.inl) hR,zGQ,fun v hv=>?_,fun _ _=>Iff.rfl⟩,?_,?_⟩
   ·have ts:=(tr v hv).choose_spec;refine⟨(hk v hv).1,let ⟨us,bs,h⟩:=ts.2.1;⟨us,bs,hv,h⟩,fun us bs ⟨_,h⟩=>(ts.2.2 us bs h).1,?_⟩;have:(fun us bs => ∃hv:V v,(tr v hv).choose us bs)=(tr v hv).choose:=by
     funext us bs;exact propext ⟨fun⟨_,h⟩=>h,fun h=>⟨hv,h⟩⟩
    show SpU P arr r (app e0 v) (fun us bs => ∃hv:V v,(tr v hv).choose us bs);rw[this];exact ts.1
   ·obtain⟨v,hv⟩:=hV;obtain⟨us,bs,h⟩:=(tr v hv).choose_spec.2.1;exact⟨_,_,v,us,bs,hv,rfl,rfl,hv,h⟩
   ·rintro us bs ⟨v,us',bs',hv,rfl,rfl,_,h⟩;obtain⟨p1,c',p2,p3⟩:=(tr v hv).choose_spec.2.2 us' bs' h;refine⟨fun m' hm=>?_,c',by rw[List.append_assoc] at p2;exact p2,p3⟩;rcases List.mem_cons.1 hm with rfl|hm2
    ·exact Sub.inr
    ·rcases hfl0 with rfl|rfl
     ·exact Sub.zero _
     ·exact p1 m' hm2
theorem Wsem.regionTW {OA DS:Oper->CE->(CE->Prop)->Prop} {rdS:Oper->Nat} (hOA:zAC P OA) (hDS:∀o c k,DS o c k->∃u,o.guard=none/\RunsB P o (den c) u (rdS o)/\Sub (wrU u) (zS o.dst)/\k (capp c u)) (hT:zO P T) (hm:P.follows .mixedOrders=true) (π:List Nat) (fs:List Nat) {id:Nat} {vs:List (Nat×SV)} {ow:List (Nat×Nat×Nat)} {al:List Nat} {hp:List (Nat×HO)} {n:CE->Prop} {x:Nat->CE->Prop} {r:CE->Prop}
  (hπ:rowOk π arr.toList=true) (h:crf vs fun vs=>zC5 OA DS rdS P T (zQ π arr.toList) (zQ π arr.toList) fs 0 ⟨vs,ow,[],hp⟩ [] fun c bs=>zEK (zQ π arr.toList) bs=true/\n c):Wsem P (.region id arr true) ⟨vs,ow,al,hp⟩ n x r:=by
 intro cx hyk hk g a w hR;have hrow:=zDD hπ;simp only[zZ,List.all_eq_true] at hk;have hd:∀o∈zQ π arr.toList,∀d,o.dst=some d->d<cx.n:=fun o ho d hd=>by
  unfold zQ at ho;obtain⟨i,hi,hoi⟩:=List.mem_filterMap.1 ho;cases hl:arr.toList[i]? with
  | none=>rw[hl] at hoi;cases hoi
  | some o2 =>
   rw[hl] at hoi;simp only[Option.map_some,Option.some.injEq] at hoi;subst hoi;have:=hk o2 (List.mem_of_getElem? hl);rw[show o2.dst=some d from hd] at this;exact Nat.le_of_ble_eq_true this
 simp only[zFE] at h;obtain⟨g1,hR1⟩:=(hR.grow (Grow.drew w)).refresh;have hce:=yT ⟨vs,ow,al,hp⟩;have hlist:(zQ π arr.toList).toArray.toList=zQ π arr.toList:=by simp
 obtain⟨S,s1,⟨us0,bs0,s2⟩,s3⟩:=zF7 (arr:=(zQ π arr.toList).toArray) hOA hDS hT (zQ π arr.toList) fs 0 _ (Fp.refresh (den ⟨vs,ow,al,hp⟩)) [] (by rw[hlist];exact h) (by rw[hce];exact EnvEq.refl _) (.inl rfl);have hsz:(zQ π arr.toList).toArray.size=arr.size:=by simp[zBF hrow]
 have hempty:∀(n k:Nat) (b:Bool),(Array.replicate n false).getD k b=if k<n then false else b:=fun n k b=>by
  by_cases h:k<n<;>simp[Array.getD,h]
 have hn:arr.toList.length=arr.size:=by simp
 refine wp_region_any hm (zEZ hrow arr.size _ (Array.replicate arr.size false) a _ (by simp) (by simp) (fun i hi b=>?_) ?_)
 ·have:=zB8 (hrow.all i (by rw[hn];exact hi));rw[hrow.len,hn] at this;rw[hempty,if_pos this,hempty,if_pos hi]
 ·refine zDF (S0:=S) (fun us bs hs=>?_) (by rw[hlist];exact hd) (e0:=Fp.refresh (den ⟨vs,ow,al,hp⟩)) (by rw[hlist];exact s1) (fun us bs hs g a w hR=>?_) arr.size _ us0 bs0 s2 g1 a _ (by rw[hsz];simp) ?_ (fun k o _ hl=>?_) ?_
  ·obtain⟨_,c',⟨hc,_⟩,_⟩:=s3 us bs hs;rw[hlist];exact zBH hc
  ·obtain⟨_,c',⟨_,h2⟩,h3⟩:=s3 us bs hs;exact⟨c',g,h2,hR.eqv h3⟩
  ·unfold left;exact Nat.le_trans (List.length_filter_le _ _) (by rw[hsz];simp)
  ·rw[hempty] at hl;split at hl<;>cases hl
  ·rw[jC us0 0 _ _ (fun j=>by rw[hempty];split<;>rfl)];exact hR1
end
section
variable {P:Program}
def FrzH (h2 h1 h1':List (Nat×HO)):Prop:=h1.length=h1'.length/\∀(i:Nat) x x',h1[i]? = some x->h1'[i]? = some x'->x.1=x'.1/\(x.2=x'.2∨∃l l',x.2 = .cells l/\x'.2 = .cells l'/\l.length=l'.length/\(∀c∈l',c.isCell=true)/\∀(j:Nat) c c',l[j]? = some c->l'[j]? = some c'->Frz h2 c c')
theorem FrzH.keys {h2 h1 h1':List (Nat×HO)} (h:FrzH h2 h1 h1'):keys h1=keys h1':=by
 unfold Fp.keys;apply List.ext_getElem?;intro i;rw[List.getElem?_map,List.getElem?_map];rcases Nat.lt_or_ge i h1.length with hi|hi
 ·have hi':i<h1'.length:=by rw[<-h.1];exact hi
  rw[List.getElem?_eq_getElem hi,List.getElem?_eq_getElem hi'];exact congrArg some (h.2 i _ _ (List.getElem?_eq_getElem hi) (List.getElem?_eq_getElem hi')).1
 ·rw[List.getElem?_eq_none hi,List.getElem?_eq_none (by rw[<-h.1];exact hi)]
theorem CallsG.freezeH {fv:Value} {hin:List (Nat×HO)} {args:List AV} {os:List Nat} {post post':AV->Nat->List (Nat×HO)->Prop} (hc:CallsG P fv hin args os post)
  (hp:∀r o h,post r o h->(keys h).Nodup->∃h1 h1' h2 r',h=h1++h2/\(∀b∈keys h2,b∉keys hin)/\Frz h2 r r'/\o=0/\FrzH h2 h1 h1'/\post' r' 0 h1'):CallsG P fv hin args os post':=by
 obtain⟨f,first,cap,he,hen,hcalls⟩:=hc;refine⟨f,first,cap,he,hen,fun F w vs h1 h2 h3 h4=>(hcalls F w vs h1 h2 h3 h4).mono fun e w' hpo=>?_⟩;obtain⟨v,r,o,hout,F',rfl,hpost,p2,p3,p4,p5,p6,p7,p8⟩:=hpo;obtain⟨ha,ha',hb,r',rfl,hnew,hfz,rfl,hfH,hpost'⟩:=hp r o hout hpost p7.nodup;have hk:keys (ha++hb)=keys ha++keys hb:=by simp[keys]
 have hka:keys ha=keys ha':=hfH.keys;have hbI:HeapIn F' w' hb:=by
  refine⟨?_,fun b hbm=>p7.shut b (by rw[hk];exact List.mem_append_right _ hbm),fun x hx=>p7.ok x (List.mem_append_right _ hx)⟩;have:=p7.nodup;rw[hk] at this;exact (List.nodup_append.1 this).2.1
 have hdis:∀b∈keys ha',b∉keys hb:=fun b hb1 hb2=>by
  rw[<-hka] at hb1;have:=p7.nodup;rw[hk] at this;exact (List.nodup_append.1 this).2.2 b hb1 b hb2 rfl
 have hge:∀b∈keys hb,w.heap.size<=b:=fun b hbm=>(p8 b (by rw[hk];exact List.mem_append_right _ hbm)).resolve_left (hnew b hbm);have cm:∀j k,com F' j k->com (fun j=>if j∈keys hb then none else F' j) j k:=fun j k hm m hm'=>by
  by_cases hj:j∈keys hb
  ·simp[hj] at hm'
  ·simp only[hj,if_false] at hm';exact hm m hm'
 have kp:Keeps F' w' (fun j=>if j∈keys hb then none else F' j) w':=⟨fun j k u hc hm=>⟨hc,cm j k hm⟩,fun j es c hc hm=>⟨hc,cm j 0 hm⟩⟩
 refine⟨v,r',0,ha',_,rfl,hpost',hfz.rep hbI p2,fun sz h=>by omega,p4,fun b hbl=>?_,fun b hbl=>?_,⟨?_,fun b hbm=>?_,fun x hx=>?_⟩,fun b hbm=>p8 b (by rw[hk,hka];exact List.mem_append_left _ hbm)⟩
 ·have:b∉keys hb:=fun h=>by have:=hge b h;omega
  simp only[this,if_false];exact p5 b hbl
 ·show (if b∈keys hb then none else F' b)=none;split
  ·rfl
  ·exact p6 b hbl
 ·have:=p7.nodup;rw[hk,hka] at this;exact (List.nodup_append.1 this).1
 ·simp only[hdis b hbm,if_false];exact p7.shut b (by rw[hk,hka];exact List.mem_append_left _ hbm)
 ·obtain⟨i,hi⟩:=List.getElem?_of_mem hx;have hlt:=(List.getElem?_eq_some_iff.1 hi).1;have hlt2:i<ha.length:=by rw[hfH.1];exact hlt
  obtain⟨e1,e2⟩:=hfH.2 i ha[i] x (List.getElem?_eq_getElem hlt2) hi;have hok:=p7.ok ha[i] (List.mem_append_left _ (List.getElem_mem hlt2));rcases e2 with e2|⟨l,l',e2,e3,hll,hcl,hfr⟩
  ·have:=hok.grow kp (fun _=>rfl);rw[e1,e2] at this;exact this
  ·rw[e1,e2] at hok;rw[e3];obtain⟨cs,E,q1,q2⟩:=hok;refine⟨cs,E,q1,by rw[<-hll];exact q2.1,fun j u c hu hcj=>?_⟩;have hjl:j<l.length:=by rw[hll];exact (List.getElem?_eq_some_iff.1 hcj).1
   have hl:=List.getElem?_eq_getElem hjl;exact⟨(hfr j _ c hl hcj).rep hbI (q2.2 j u _ hu hl).1,hcl c (List.mem_of_getElem? hcj)⟩
end
section
variable {P:Program} {arr:Array Oper}
def zSX (R:Act->World->Prop) (Q:Exit->Act->World->Prop):Exit->Act->World->Prop
 | .normal,a,w=>R a w
 | x,a,w=>Q x a w
theorem zVE {o:Oper} {a:Act} {w:World} {K R:Act->World->Prop} {Q:Exit->Act->World->Prop} (h:o.wp P a w K (zSX R Q)):o.wp P a w K Q:=by
 unfold Oper.wp at *;generalize (execOp a.eval o).run P w=r at *;cases r with
 | ok n w'=>cases n<;>first|exact h|exact Calls.mono h (fun e w'' he=>by cases e<;>exact he)
 | halt x w'=>cases x<;>exact h
theorem zHY {Q:Exit->Act->World->Prop}:∀(n:Nat) (L:Array Bool) (a:Act) (w:World),wpAny P .any arr Q n L a w->wpAny P .any arr Q (n+1) L a w
 | 0,L,a,w,h=>⟨fun _=>h.2,fun i hi=>by rw[h.1] at hi;cases hi⟩
 | n+1,L,a,w,h=>⟨h.1,fun i hi=>wpOp_mono (fun a w hw=>zHY n _ a w hw) (h.2 i hi)⟩
theorem zJA {Q:Exit->Act->World->Prop} {n:Nat} {L:Array Bool} {a:Act} {w:World} (h:wpAny P .any arr Q n L a w):∀k,wpAny P .any arr Q (k+n) L a w
 | 0=>by rw[Nat.zero_add];exact h
 | k+1=>by rw[Nat.succ_add];exact zHY _ _ _ _ (zJA h k)
def backOk:List Oper->Nat->Bool
 | [],_=>true
 | o::r,i=>(match o.guard with|none=>true|some _=>false) && (o.after.toList.all (fun e => !Region.binds .any e || Nat.blt e.on i) && backOk r (i+1))
def zS9 (kk:Nat) (l:List Oper):Bool:=l.all fun o=>(match o.guard with|none=>true|some _=>false) && (List.range kk).all fun j=>o.after.toList.any fun e=>Region.binds .any e && Nat.beq e.on j
def zJ0 (l:List Oper) (kk:Nat):Bool:=Nat.ble kk l.length && (backOk (l.take kk) 0 && zS9 kk (l.drop kk))
theorem zIU:∀(l:List Oper) (i k:Nat) (o:Oper),backOk l i=true->l[k]? = some o->o.guard=none/\∀e∈o.after.toList,Region.binds .any e=true->e.on<i+k
 | [],i,k,o,_,h=>by simp at h
 | o'::r,i,0,o,hb,h=>by
  simp at h;subst h;simp only[backOk,Bool.and_eq_true,List.all_eq_true] at hb;refine⟨(by have:=hb.1;revert this;cases o'.guard<;>simp),fun e he hbn=>?_⟩;have:=hb.2.1 e he;rw[hbn] at this;exact Nat.le_of_ble_eq_true this
 | o'::r,i,k+1,o,hb,h=>by
  simp only[backOk,Bool.and_eq_true] at hb;have:=zIU r (i+1) k o hb.2.2 (by simpa using h);exact⟨this.1,fun e he hbn=>by have:=this.2 e he hbn;omega⟩
structure Split (arr:Array Oper) (kk:Nat):Prop where
 le:kk<=arr.size
 ng:∀(i:Nat) o,arr[i]? = some o->o.guard=none
 back:∀i o,i<kk->arr[i]? = some o->∀e∈o.after.toList,Region.binds .any e=true->e.on<i
 late:∀i o,kk<=i->arr[i]? = some o->∀j,j<kk->∃e∈o.after.toList,Region.binds .any e=true/\e.on=j
theorem zJX {kk:Nat} (h:zJ0 arr.toList kk=true):Split arr kk:=by
 simp only[zJ0,Bool.and_eq_true] at h;obtain⟨h1,h2,h3⟩:=h;have hle:kk<=arr.size:=by have:=Nat.le_of_ble_eq_true h1;simpa using this
 have hl:∀i o,kk<=i->arr[i]? = some o->o.guard=none/\∀j,j<kk->∃e∈o.after.toList,Region.binds .any e=true/\e.on=j:=fun i o hi ho=>by
  simp only[zS9,List.all_eq_true,Bool.and_eq_true] at h3;have hm:o∈arr.toList.drop kk:=by
   refine List.mem_of_getElem? (i:=i-kk) ?_;rw[List.getElem?_drop,Nat.add_sub_cancel' hi,Array.getElem?_toList];exact ho
  obtain⟨g1,g2⟩:=h3 o hm;refine⟨(by revert g1;cases o.guard<;>simp),fun j hj=>?_⟩;have:=g2 j (List.mem_range.2 hj);simp only[List.any_eq_true,Bool.and_eq_true] at this;obtain⟨e,he,hb,hj⟩:=this;exact⟨e,he,hb,Nat.eq_of_beq_eq_true hj⟩
 have hf:∀i o,i<kk->arr[i]? = some o->o.guard=none/\∀e∈o.after.toList,Region.binds .any e=true->e.on<i:=fun i o hi ho=>by
  have:=zIU (arr.toList.take kk) 0 i o h2 (by rw[List.getElem?_take_of_lt hi,Array.getElem?_toList];exact ho);exact⟨this.1,fun e he hb=>by have:=this.2 e he hb;omega⟩
 exact⟨hle,fun i o ho=>by rcases Nat.lt_or_ge i kk with hi|hi;exact (hf i o hi ho).1;exact (hl i o hi ho).1,fun i o hi ho=>(hf i o hi ho).2,fun i o hi ho=>(hl i o hi ho).2⟩
theorem mem_ready {md:Region.Mode} {L:Array Bool} {i:Nat}:i∈Region.ready md arr L↔∃o,arr[i]? = some o/\L.getD i true=false/\∀e∈o.after.toList,Region.binds md e=true->L.getD e.on false=true:=by
 unfold Region.ready;simp only[List.mem_filter,List.mem_range,Bool.and_eq_true];constructor
 ·rintro⟨hi,h1,h2⟩;rw[Array.getElem?_eq_getElem hi] at h2⊢;refine⟨_,rfl,by simpa using h1,fun e he hb=>?_⟩;simp only[Option.map_some,Option.getD_some] at h2;rw[<-Array.all_toList,List.all_eq_true] at h2;have:=h2 e he;rw[hb] at this;simpa using this
 ·rintro⟨o,ho,h1,h2⟩;have hi:i<arr.size:=by
   rcases Nat.lt_or_ge i arr.size with h|h
   ·exact h
   ·rw[Array.getElem?_eq_none h] at ho;cases ho
  refine⟨hi,by rw[h1];rfl,?_⟩;rw[ho];simp only[Option.map_some,Option.getD_some];rw[<-Array.all_toList,List.all_eq_true];intro e he;cases hb:Region.binds md e with
  | false=>rfl
  | true=>rw[h2 e he hb];rfl
theorem zKQ {Q:Exit->Act->World->Prop} {kk m:Nat} (hs:Split arr kk) {Lf:Array Bool} (hf1:Lf.size=arr.size) (hf2:∀i b,i<kk->Lf.getD i b=true) (hf3:∀i b,kk<=i->i<arr.size->Lf.getD i b=false):∀(f:Nat) (LH L:Array Bool) (a:Act) (w:World),LH.size=kk->L.size=arr.size->(∀i,i<kk->∀b,L.getD i b=LH.getD i b)->(∀i b,kk<=i->i<arr.size->L.getD i b=false) ->
  wpAny P .any (arr.toList.take kk).toArray (zSX (fun a w=>wpAny P .any arr Q m Lf a w) Q) f LH a w->wpAny P .any arr Q (f+m) L a w:=by
 have hget:∀i,i<kk->((arr.toList.take kk).toArray)[i]? = arr[i]?:=fun i hi=>by rw[List.getElem?_toArray,List.getElem?_take_of_lt hi,Array.getElem?_toList]
 have hge:∀i,kk<=i->((arr.toList.take kk).toArray)[i]? = none:=fun i hi=>by
  rw[List.getElem?_toArray,List.getElem?_eq_none];simp;omega
 have lt:∀{i o},arr[i]? = some o->i<arr.size:=fun {i o} ho=>by
  rcases Nat.lt_or_ge i arr.size with h|h
  ·exact h
  ·rw[Array.getElem?_eq_none h] at ho;cases ho
 have tf:∀(L:Array Bool) i b b',i<L.size->L.getD i b=L.getD i b':=fun L i b b' h=>by simp[Array.getD,h]
 have full:∀(LH L:Array Bool),LH.size=kk->L.size=arr.size->(∀i,i<kk->∀b,L.getD i b=LH.getD i b)->(∀i b,kk<=i->i<arr.size->L.getD i b=false)->Region.ready .any (arr.toList.take kk).toArray LH=[]->L=Lf:=by
  intro LH L h1 h2 h3 h4 hr;have hall:∀j,j<kk->LH.getD j true=true:=by
   intro j;induction j using Nat.strongRecOn with
   | _ j ih =>
    intro hj;cases hl:LH.getD j true with
    | true=>rfl
    | false =>
     exfalso;have hjs:j<arr.size:=Nat.lt_of_lt_of_le hj hs.le;have ho:arr[j]? = some arr[j]:=by simp[hjs]
     have:j∈Region.ready .any (arr.toList.take kk).toArray LH:=mem_ready.2 ⟨arr[j],by rw[hget j hj];exact ho,hl,fun e he hb=>by
      have hlt:=hs.back j _ hj ho e he hb;rw[tf LH e.on false true (by omega)];exact ih e.on hlt (by omega)⟩
     rw[hr] at this;cases this
  refine Array.ext (by rw[h2,hf1]) fun i g1 g2=>?_;have e1:L[i]=L.getD i true:=by simp[Array.getD,g1]
  have e2:Lf[i]=Lf.getD i true:=by simp[Array.getD,g2]
  rw[e1,e2];rcases Nat.lt_or_ge i kk with hi|hi
  ·rw[h3 i hi,hf2 i _ hi,hall i hi]
  ·rw[h4 i _ hi (by omega),hf3 i _ hi (by omega)]
 intro f;induction f with
 | zero =>
  intro LH L a w h1 h2 h3 h4 h;rw[Nat.zero_add,full LH L h1 h2 h3 h4 h.1];exact h.2
 | succ f ih =>
  intro LH L a w h1 h2 h3 h4 h;by_cases hr:Region.ready .any (arr.toList.take kk).toArray LH=[]
  ·have:=h.1 hr;rw[full LH L h1 h2 h3 h4 hr];exact zJA this (f+1)
  ·have key:∀i,i∈Region.ready .any arr L->i∈Region.ready .any (arr.toList.take kk).toArray LH/\i<kk:=fun i hi=>by
    obtain⟨o,ho,hl,he⟩:=mem_ready.1 hi;have hik:i<kk:=by
     rcases Nat.lt_or_ge i kk with h|h
     ·exact h
     ·exfalso;obtain⟨j,hj⟩:=List.exists_mem_of_ne_nil _ hr;obtain⟨oj,hoj,hlj,_⟩:=mem_ready.1 hj;have hjk:j<kk:=by
       rcases Nat.lt_or_ge j kk with h|h
       ·exact h
       ·rw[hge j h] at hoj;cases hoj
      obtain⟨e,hem,hb,hon⟩:=hs.late i o h ho j hjk;have:=he e hem hb;rw[hon,h3 j hjk,tf LH j false true (by omega),hlj] at this;cases this
    refine⟨mem_ready.2 ⟨o,by rw[hget i hik];exact ho,by rw[<-h3 i hik];exact hl,fun e hem hb=>?_⟩,hik⟩;have hlt:=hs.back i o hik ho e hem hb;rw[<-h3 e.on (by omega)];exact he e hem hb
   rw[Nat.succ_add];refine⟨fun hr2=>?_,fun i hi=>?_⟩
   ·exfalso;obtain⟨j,hj⟩:=List.exists_mem_of_ne_nil _ hr;obtain⟨oj,hoj,hlj,hej⟩:=mem_ready.1 hj;have hjk:j<kk:=by
     rcases Nat.lt_or_ge j kk with h|h
     ·exact h
     ·rw[hge j h] at hoj;cases hoj
    rw[hget j hjk] at hoj;have:j∈Region.ready .any arr L:=mem_ready.2 ⟨oj,hoj,by rw[h3 j hjk];exact hlj,fun e he hb=>by
     have hlt:=hs.back j oj hjk hoj e he hb;rw[h3 e.on (by omega)];exact hej e he hb⟩
    rw[hr2] at this;cases this
   ·obtain⟨hi1,hik⟩:=key i hi;obtain⟨o,ho,_,_⟩:=mem_ready.1 hi;have h5:=h.2 i hi1;have w1:∀(ys:List (Option Nat×Option Value)),True:=fun _=>trivial;unfold wpOp at h5⊢;rw[hget i hik,ho] at h5;rw[ho];simp only at h5⊢;have hg:=hs.ng i o ho;have wt:∀(ar:Array Oper),Region.wanted o (yielded ar a.tmps)=true:=fun ar=>by unfold Region.wanted;rw[hg]
    rw[if_pos (wt _)] at h5⊢;refine h5.imp (fun h5=>Oper.wp_mono (fun a' w' h6=>?_) (zVE h5)) (fun h5=>⟨h5.1,h5.2⟩);refine ih _ _ a' w' (by simp[h1]) (by simp[h2]) (fun j hj b=>?_) (fun j b hj1 hj2=>?_) h6
    ·by_cases hij:i=j
     ·subst hij;have:i<arr.size:=lt ho;simp[Array.getD,h1,h2,hik,this]
     ·rw[getD_set_ne b hij,getD_set_ne b hij];exact h3 j hj b
    ·rw[getD_set_ne b (by omega:i≠j)];exact h4 j b hj1 hj2
def zBS (o:Oper) (L:List Bool):Bool:=o.after.toList.all fun e => !Region.binds .any e || L.getD e.on false
def zDV:List Oper->Nat->List Bool->List Bool->List Nat
 | o::r,i,b::bs,L=>bif b then zDV r (i+1) bs L else bif zBS o L then i::zDV r (i+1) bs L else zDV r (i+1) bs L
 | _,_,_,_=>[]
theorem zMP {L:List Bool} {j:Nat}:∀(l:List Oper) (i:Nat) (bs:List Bool) (t:Nat) (o:Oper),j=i+t->l[t]? = some o->bs[t]? = some false->zBS o L=true->j∈zDV l i bs L
 | [],i,bs,t,o,_,h,_,_=>by simp at h
 | o'::r,i,[],t,o,_,_,h,_=>by simp at h
 | o'::r,i,b::bs,0,o,hj,h1,h2,h3=>by
  simp at h1 h2;subst h1;subst h2;simp only[zDV,cond_false,h3,cond_true];subst hj;simp
 | o'::r,i,b::bs,t+1,o,hj,h1,h2,h3=>by
  have:=zMP (L:=L) (j:=j) r (i+1) bs t o (by omega) (by simpa using h1) (by simpa using h2) h3;simp only[zDV];cases b with
  | true=>exact this
  | false =>
   simp only[cond_false];cases zBS o' L with
   | true=>exact List.mem_cons_of_mem _ this
   | false=>exact this
theorem zL6 {j:Nat}:∀(l:List Oper) (i:Nat) (bs L:List Bool),j∈zDV l i bs L->∃t o,j=i+t/\l[t]? = some o/\bs[t]? = some false/\zBS o L=true
 | [],i,bs,L,h=>by simp[zDV] at h
 | o'::r,i,[],L,h=>by simp[zDV] at h
 | o'::r,i,b::bs,L,h=>by
  have up:j∈zDV r (i+1) bs L->∃t o,j=i+t/\(o'::r)[t]? = some o/\(b::bs)[t]? = some false/\zBS o L=true:=fun h=>by
   obtain⟨t,o,h1,h2,h3,h4⟩:=zL6 r (i+1) bs L h;exact⟨t+1,o,by omega,by simpa using h2,by simpa using h3,h4⟩
  simp only[zDV] at h;cases b with
  | true=>exact up h
  | false =>
   simp only[cond_false] at h;cases hb:zBS o' L with
   | true =>
    rw[hb] at h;rcases List.mem_cons.1 h with h|h
    ·exact⟨0,o',by omega,rfl,rfl,hb⟩
    ·exact up h
   | false=>rw[hb] at h;exact up h
def setB:List Bool->Nat->List Bool
 | [],_=>[]
 | _::r,0=>true::r
 | b::r,i+1=>b::setB r i
theorem zK7:∀(l:List Bool) (i:Nat),setB l i=l.set i true
 | [],_=>rfl
 | _::r,0=>rfl
 | b::r,i+1=>by simp[setB,zK7 r i]
def zUB:List Nat->(Nat->Prop)->Prop
 | [],_=>True
 | i::r,f=>f i/\zUB r f
theorem zJL {f:Nat->Prop}:∀{l:List Nat},zUB l f->∀i∈l,f i
 | i::r,h,j,hj=>by
  rcases List.mem_cons.1 hj with rfl|hj
  ·exact h.1
  ·exact zJL h.2 j hj
def zWA:List Oper->Nat->Option Oper
 | [],_=>none
 | o::_,0=>some o
 | _::r,i+1=>zWA r i
theorem zPN:∀(l:List Oper) (i:Nat),zWA l i=l[i]?
 | [],_=>rfl
 | _::_,0=>rfl
 | _::r,i+1=>by simp[zWA,zPN r i]
def zNT (P:Program) (T:TT) (l:List Oper) (k:CE->Prop):Nat->List Bool->CE->Prop
 | 0,L,c=>match zDV l 0 L L with
  | []=>k c
  | _=>False
 | n+1,L,c=>match zDV l 0 L L with
  | []=>k c
  | i::r=>zUB (i::r) fun j=>match zWA l j with
   | some o=>xR P T l o c fun c' _=>zNT P T l k n (setB L j) c'
   | none=>False
variable {T:TT}
theorem zQ7 (hT:zO P T) {cx:Ctx} {Q:Exit->Act->World->Prop} {k:CE->Prop} (hd:∀o∈arr.toList,∀d,o.dst=some d->d<cx.n) (hg:∀(i:Nat) o,arr[i]? = some o->o.guard=none) (hQ:∀c g a w,k c->Rel cx g (den c) a w->Q .normal a w):∀(n:Nat) (L:List Bool) (c:CE) (g:G) (a:Act) (w:World),L.length=arr.size->zNT P T arr.toList k n L c->Rel cx g (den c) a w->wpAny P .any arr Q n L.toArray a w:=by
 have rd:∀(L:List Bool) i,L.length=arr.size->i∈Region.ready .any arr L.toArray->i∈zDV arr.toList 0 L L/\∃o,arr[i]? = some o:=fun L i hL hi=>by
  obtain⟨o,ho,hl,he⟩:=mem_ready.1 hi;have hi2:i<L.length:=by
   rcases Nat.lt_or_ge i arr.size with h|h
   ·omega
   ·rw[Array.getElem?_eq_none h] at ho;cases ho
  refine⟨zMP _ 0 L i o (by omega) (by rw[Array.getElem?_toList];exact ho) (by rw[List.getElem?_eq_getElem hi2];simp[Array.getD,hi2] at hl;rw[hl]) ?_,o,ho⟩;unfold zBS;rw[List.all_eq_true];intro e hem;cases hb:Region.binds .any e with
  | false=>rfl
  | true =>
   have:=he e hem hb;simp only[Bool.not_true,Bool.false_or];rw[<-this];simp[Array.getD,List.getD];by_cases h:e.on<L.length<;>simp[h]
 intro n;induction n with
 | zero =>
  intro L c g a w hL h hR;unfold zNT at h;split at h
  ·rename_i hr;refine⟨?_,hQ _ _ _ _ h hR⟩;cases hq:Region.ready .any arr L.toArray with
   | nil=>rfl
   | cons i r =>
    have:=(rd L i hL (by rw[hq];simp)).1;rw[hr] at this;cases this
  ·exact h.elim
 | succ n ih =>
  intro L c g a w hL h hR;unfold zNT at h;split at h
  ·rename_i hr;have hq:Region.ready .any arr L.toArray=[]:=by
    cases hq:Region.ready .any arr L.toArray with
    | nil=>rfl
    | cons i r =>
     have:=(rd L i hL (by rw[hq];simp)).1;rw[hr] at this;cases this
   exact⟨fun _=>hQ _ _ _ _ h hR,fun i hi=>by rw[hq] at hi;cases hi⟩
  ·rename_i i0 r0 hr;have hne:Region.ready .any arr L.toArray≠[]∨True := .inr trivial;have hall:=zJL h;refine⟨fun hq=>?_,fun i hi=>?_⟩
   ·obtain⟨t,o,h1,h2,h3,h4⟩:=zL6 (j:=i0) arr.toList 0 L L (by rw[hr];simp);rw[Nat.zero_add] at h1;subst h1;have:i0∈Region.ready .any arr L.toArray:=mem_ready.2 ⟨o,by rw[Array.getElem?_toList] at h2;exact h2,by simp[Array.getD_eq_getD_getElem?,h3],fun e he hb=>?_⟩
    ·rw[hq] at this;cases this
    ·unfold zBS at h4;rw[List.all_eq_true] at h4;have:=h4 e he;rw[hb] at this;simp only[Bool.not_true,Bool.false_or] at this;rw[<-this];simp[Array.getD_eq_getD_getElem?,List.getD_eq_getElem?_getD]
   ·obtain⟨h1,o,ho⟩:=rd L i hL hi;rw[hr] at h1;have h2:=hall i h1;rw[zPN,Array.getElem?_toList,ho] at h2;simp only at h2;obtain⟨u,m,q1,q2,q3⟩:=wW (arr:=arr) hT h2;unfold wpOp;rw[ho];simp only;have wt:Region.wanted o (yielded arr a.tmps)=true:=by unfold Region.wanted;rw[hg i o ho]
    rw[if_pos wt];refine .inl (q1 cx _ g a w (hd o (by rw[<-Array.getElem?_toList] at ho;exact List.mem_of_getElem? ho)) (Agree.refl _ _) hR _ _ fun g' a' w' hR'=>?_);have:=ih (setB L i) (capp c u) g' a' w' (by rw[zK7];simpa using hL) q3 (by rw[zT];exact hR');rw[zK7] at this;simpa using this
end
section
variable {P:Program} {arr:Array Oper} {T:TT}
def zG7:List Value->Option (List AV)
 | []=>some []
 | v::r=>match zGE v,zG7 r with
  | .v a,some l=>match a.isCell with
   | true=>some (a::l)
   | false=>none
  | _,_=>none
theorem zH8 {F:Nat->Option Nat} {w:World}:∀{vs:List Value} {l:List AV},zG7 vs=some l->vs.length=l.length/\(∀c∈l,c.isCell=true)/\∀(j:Nat) u c,vs[j]? = some u->l[j]? = some c->Rep F w u c
 | [],l,h=>by simp only[zG7,Option.some.injEq] at h;subst h;exact⟨rfl,fun c hc=>by simp at hc,fun j u c hu=>by simp at hu⟩
 | v::r,l,h=>by
  unfold zG7 at h;split at h
  ·rename_i a l' ha hl;split at h
   ·rename_i hc;injection h with h;subst h
    obtain⟨h1,h2,h3⟩:=zH8 (F:=F) (w:=w) hl;refine⟨by simp[h1],fun c hc'=>?_,fun j u c hu hc'=>?_⟩
    ·rcases List.mem_cons.1 hc' with rfl|hc'
     ·exact hc
     ·exact h2 c hc'
    ·match j with
     | 0=>simp at hu hc';subst hu;subst hc';exact zFO ha
     | j+1=>exact h3 j u c (by simpa using hu) (by simpa using hc')
   ·cases h
  ·cases h
def bsS (T:TT) (o:Oper) (c:CE) (k:CE->Prop):Prop:=match o.guard,o.op with
 | none,.buildSlice t n parts=>match parts.toList,find T t,o.dst with
  | [(0,.const (.agg cs))],.sl _ esz,some d=>match zG7 cs.toList with
   | some l=>Nat.beq n 1=true/\Nat.ble esz 16777216=true/\Nat.beq (wk (.agg l)).cells.length esz=true/\k (capp c [.val d (.v (.sl [wk (.agg l)])),.clr d,.own d 0 (esz+1)])
   | none=>False
  | _,_,_=>False
 | _,_=>False
theorem zSW (hT:zO P T) {o:Oper} {c:CE} {k:CE->Prop} (h:bsS T o c k):∃u,o.guard=none/\RunsB P o (den c) u 0/\Sub (wrU u) (zS o.dst)/\k (capp c u):=by
 unfold bsS at h;split at h
 ·rename_i t n parts hg ho;split at h
  ·rename_i cs E esz d hp hf hd;split at h
   ·rename_i l hl;obtain⟨hn,hle,hsz,h⟩:=h;have hn:=Nat.eq_of_beq_eq_true hn;subst hn;have hle:=Nat.le_of_ble_eq_true hle;have hsz:=Nat.eq_of_beq_eq_true hsz;have hk:=find_ok hT t;rw[hf] at hk;obtain⟨it,i,z,h1,h2,h3,h4,h5,h6,h7,h8,h9,h10,_⟩:=hk;have hwt:∀l',wk (.agg l)≠.tup l':=by
     intro l' hh;unfold wk at hh;cases hn:zE0 (.agg l) with
     | false=>rw[hn] at hh;cases hh
     | true=>rw[hn] at hh;cases hh
    have hrep0:∀(F:Nat->Option Nat) (w:World),RepCells F w cs.toList (wk (.agg l)).cells:=fun F w=>by
     obtain⟨c1,c2,c3⟩:=zH8 (F:=F) (w:=w) hl;have:Rep F w (.agg cs) (.agg l) := .agg cs l (by simpa using c1) c2 (fun j u c hu hc=>c3 j u c (by simpa using hu) hc);exact (y9 this).cells hwt
    refine⟨_,hg,fun cx e' g ac w hdn hag hR K Q hK=>?_,?_,h⟩
    ·have hlen:[wk (AV.agg l)].length=1:=rfl;have hcn:cs.size=esz:=by rw[<-hsz];have:=(hrep0 g.F w).1;simpa using this
     have q2:∀x∈[wk (AV.agg l)],x.cells.length=esz:=fun x hx=>by rw[List.mem_singleton.1 hx];exact hsz
     have q3:∀(j:Nat) x,(parts.toList.map fun (i,x)=>(i,ac.eval x))[j]? = some x->x.1=0+j/\x.2.cells.size=esz/\∀y,[wk (AV.agg l)][j]? = some y->RepCells g.F w x.2.cells.toList y.cells:=fun j x hx=>by
      rw[hp] at hx
      match j with
      | 0 =>
       simp only[List.map_cons,List.map_nil,List.getElem?_cons_zero,Option.some.injEq] at hx;subst hx;refine⟨rfl,hcn,fun y hy=>?_⟩;simp only[List.getElem?_cons_zero,Option.some.injEq] at hy;subst hy;exact hrep0 g.F w
      | j+1=>simp at hx
     obtain⟨cs0,hcs1,hcs2⟩:∃cs0:Array Value,(1*esz=0->cs0 = #[])/\(1*esz≠0->cs0=z.cells):=by
      by_cases h0:1*esz=0
      ·exact⟨#[],fun _=>rfl,fun h=>absurd h0 h⟩
      ·exact⟨z.cells,fun h=>absurd h h0,fun _=>rfl⟩
     have hcsz:((Array.range (1*esz)).map (cs0[· % cs0.size]!)).size=1*esz:=by simp
     obtain⟨r,r1,r2,_,r4⟩:=zHI (sz:=esz) (parts.toList.map fun (i,x)=>(i,ac.eval x)) 0 ((Array.range (1*esz)).map (cs0[· % cs0.size]!)) (fun j x hx=>⟨(q3 j x hx).1,(q3 j x hx).2.1⟩) (by rw[hcsz,hp];simp);have hrun:(execOp ac.eval o).run P w = .ok (.value (.slice (some ⟨w.heap.size,0,none⟩) 1 1)) (w.alloc (.cells r E)):=by
      unfold execOp;have hp1:(parts.map fun (i,x)=>(i,ac.eval x)).toList=parts.toList.map fun (i,x)=>(i,ac.eval x):=by simp
      simp only[ho,Instr.buildSlice,Sem.run_bind,run_underlying h1,yI h5,h6,Result.andThen_ok,Sem.run_pure,hp1];rw[if_neg (by omega)];by_cases h0:1*esz=0
      ·have:=hcs1 h0;subst this;rw[if_pos h0];simp only[Sem.run_bind,Sem.run_pure,Result.andThen_ok,r1,newRow,run_newObj,World.alloc_eq]
      ·have:=hcs2 h0;subst this;rw[if_neg h0];simp only[Sem.run_bind,Sem.run_pure,Result.andThen_ok,zEX h5 h7,r1,newRow,run_newObj,World.alloc_eq]
     refine zU hrun ?_;have hgr:=Grow.alloc w (.cells r E);have hrep:Rep g.F (w.alloc (.cells r E)) (.slice (some ⟨w.heap.size,0,none⟩) 1 1) (.sl [wk (.agg l)]):=by
      refine Rep.sl_mk (World.heap_alloc_new w _) hlen (Nat.le_refl _) q2 (fun k _ m hm=>by rw[hR.fresh _ (Nat.le_refl _)] at hm;cases hm) (fun i x j c hx hj=>?_);have hi:i<(parts.toList.map fun (i,x)=>(i,ac.eval x)).length:=by
       have:=(List.getElem?_eq_some_iff.1 hx).1;rw[hp];simpa using this
      have hv:=List.getElem?_eq_getElem hi;obtain⟨p1,p2,p3⟩:=q3 i _ hv;have hjs:j<esz:=by rw[<-q2 x (List.mem_of_getElem? hx)];exact (List.getElem?_eq_some_iff.1 hj).1
      have hr:=r4 i _ hv j hjs;obtain⟨u,u1,u2,u3⟩:=(p3 x hx).cell hj;refine⟨u,?_,u2.mono (hgr.keeps fun _ _=>rfl),u3⟩;rw[show 0+(i*esz+j)=(0+i)*esz+j by simp,hr,<-Array.getElem?_toList];exact u1
     have h2:=((hR.grow hgr).put (hdn d hd) (x := .v (.sl [wk (.agg l)])) hrep).setOwn d 0 (esz+1) (fun sz v he hv=>by
      have:(app e' [.val d (.v (.sl [wk (.agg l)])),.clr d]).vals d = .v (.sl [wk (.agg l)]):=zY _ _ _;rw[this] at hv;have hv:=hv.2;rw[yF (by rw[hR.size];exact hdn d hd)] at hv;subst hv;exact⟨.inr (.inl ⟨_,1,rfl⟩),fun b hb=>by simp[zW] at hb⟩)
     rw[hd];exact hK g _ _ h2
    ·unfold zS;rw[hd];simp only[wrU];exact .or Sub.inl (.or Sub.inr (.or Sub.inr (Sub.zero _)))
   ·exact h.elim
  ·exact h.elim
 ·exact h.elim
end
section
variable {P:Program} {arr:Array Oper} {T:TT}
def zEN:Op->Bool
 | .move _ | .assign _ | .fieldAddr .. | .load .. | .buildSlice .. | .build .. => true
 | .nilCheck _=>true
 | _=>false
theorem zCK {s:Sem Value} {w w':World} {n:Next} (h:(do pure (Next.value (<-s)):Sem Next).run P w = .ok n w'):∃v,n = .value v:=by
 rw[Sem.run_bind] at h;cases hs:s.run P w with
 | ok v w2=>rw[hs] at h;simp only[Result.andThen_ok,Sem.run_pure] at h;injection h with h1 h2;exact⟨v,h1.symm⟩
 | halt x w2=>rw[hs] at h;cases h
theorem zLC {o:Oper} (hq:zEN o.op=true) {a:Act} {w w':World} {n:Next} (h:(execOp a.eval o).run P w = .ok n w'):∃v,n = .value v:=by
 unfold execOp at h;cases ho:o.op with
 | move x=>simp only[ho,Sem.run_pure] at h;injection h with h1 h2;exact⟨_,h1.symm⟩
 | assign x=>simp only[ho,Sem.run_pure] at h;injection h with h1 h2;exact⟨_,h1.symm⟩
 | fieldAddr=>simp only[ho] at h;exact zCK h
 | load=>simp only[ho] at h;exact zCK h
 | buildSlice=>simp only[ho] at h;exact zCK h
 | build=>simp only[ho] at h;exact zCK h
 | nilCheck x =>
  simp only[ho] at h;split at h
  ·cases h
  ·cases h
  ·cases h
  ·split at h
   ·cases h
   ·rw[Sem.run_bind] at h;cases hs:(program:Sem Program).run P w with
    | halt x w2=>rw[hs] at h;cases h
    | ok p w2 =>
     rw[hs] at h;simp only[Result.andThen_ok] at h;rw[Sem.run_bind] at h;generalize hs2:Sem.run P _ w2=r at h;cases r with
     | halt x w3=>cases h
     | ok q w3 =>
      simp only[Result.andThen_ok] at h;split at h
      ·rw[Sem.run_bind] at h;cases h
      ·simp only[Sem.run_pure] at h;injection h with h1 h2;exact⟨_,h1.symm⟩
   ·simp only[Sem.run_pure] at h;injection h with h1 h2;exact⟨_,h1.symm⟩
  ·simp only[Sem.run_pure] at h;injection h with h1 h2;exact⟨_,h1.symm⟩
 | _=>rw[ho] at hq;cases hq
theorem zWY {o:Oper} (hq:zEN o.op=true) {a:Act} {w:World} {K1 K2:Act->World->Prop} {Q:Exit->Act->World->Prop} (h1:o.wp P a w K1 Q) (h2:o.wp P a w K2 Q):o.wp P a w (fun a w=>K1 a w/\K2 a w) Q:=by
 unfold Oper.wp at *;cases hr:(execOp a.eval o).run P w with
 | ok n w' =>
  rw[hr] at h1 h2;obtain⟨v,rfl⟩:=zLC hq hr;exact⟨h1,h2⟩
 | halt x w'=>rw[hr] at h1 h2;cases x<;>first|exact h1|exact h1.elim
def zLS (x:Nat) (o:Oper):Oper:={o with after:=(o.after.toList++[({on:=x,ground := .data}:Edge)]).toArray}
def xQ (x:Nat):Nat->List Oper->List Oper
 | _,[]=>[]
 | 0,o::r=>zLS x o::r
 | y+1,o::r=>o::xQ x y r
theorem zG4 (x:Nat):∀(y:Nat) (l:List Oper),(xQ x y l).length=l.length
 | 0,[]=>rfl
 | 0,o::r=>rfl
 | y+1,[]=>rfl
 | y+1,o::r=>by simp[xQ,zG4 x y r]
theorem zKR (x:Nat):∀(y:Nat) (l:List Oper) (i:Nat),(xQ x y l)[i]? = if i=y then (l[i]?).map (zLS x) else l[i]?
 | 0,[],i=>by simp[xQ]
 | y+1,[],i=>by simp[xQ]
 | 0,o::r,0=>by simp[xQ]
 | 0,o::r,i+1=>by simp[xQ]
 | y+1,o::r,0=>by simp[xQ]
 | y+1,o::r,i+1=>by simp[xQ,zKR x y r i]
def zAU (x y:Nat):Nat->List Oper->Bool
 | _,[]=>true
 | i,o::r=>((Nat.beq i x || (Nat.beq i y || (zEN o.op || o.after.toList.any fun e=>Region.binds .any e && (Nat.beq e.on x || Nat.beq e.on y)))) && (match o.guard with|none=>true|some _=>false)) && zAU x y (i+1) r
theorem zFW {x y:Nat}:∀(l:List Oper) (i k:Nat) (o:Oper),zAU x y i l=true->l[k]? = some o->o.guard=none/\(i+k=x∨i+k=y∨zEN o.op=true∨∃e∈o.after.toList,Region.binds .any e=true/\(e.on=x∨e.on=y))
 | [],i,k,o,_,h=>by simp at h
 | o'::r,i,0,o,hb,h=>by
  simp at h;subst h;simp only[zAU,Bool.and_eq_true,Bool.or_eq_true,List.any_eq_true] at hb;refine⟨by have:=hb.1.2;revert this;cases o'.guard<;>simp,?_⟩;rcases hb.1.1 with h|h|h|⟨e,he,hbn,h⟩
  ·exact .inl (Nat.eq_of_beq_eq_true h)
  ·exact .inr (.inl (Nat.eq_of_beq_eq_true h))
  ·exact .inr (.inr (.inl h))
  ·exact .inr (.inr (.inr ⟨e,he,hbn,h.imp Nat.eq_of_beq_eq_true Nat.eq_of_beq_eq_true⟩))
 | o'::r,i,k+1,o,hb,h=>by
  simp only[zAU,Bool.and_eq_true] at hb;have:=zFW r (i+1) k o hb.2 (by simpa using h);rw[show i+(k+1)=i+1+k by omega];exact this
theorem zD6 {x y:Nat} (i:Nat):((xQ x y arr.toList).toArray)[i]? = if i=y then (arr[i]?).map (zLS x) else arr[i]?:=by
 rw[List.getElem?_toArray,zKR,Array.getElem?_toList]
theorem zHF {x y:Nat} {L:Array Bool} {i:Nat} (h:i∈Region.ready .any (xQ x y arr.toList).toArray L):i∈Region.ready .any arr L:=by
 obtain⟨o,ho,h1,h2⟩:=mem_ready.1 h;rw[zD6] at ho;split at ho
 ·cases hi:arr[i]? with
  | none=>rw[hi] at ho;cases ho
  | some o' =>
   rw[hi] at ho;simp only[Option.map_some,Option.some.injEq] at ho;subst ho;exact mem_ready.2 ⟨o',hi,h1,fun e he hb=>h2 e (by simp[zLS,Array.mem_toList_iff.1 he]) hb⟩
 ·exact mem_ready.2 ⟨o,ho,h1,h2⟩
theorem qI {x y:Nat} {L:Array Bool} {i:Nat} (h:i∈Region.ready .any arr L) (hx:i=y->L.getD x false=true):i∈Region.ready .any (xQ x y arr.toList).toArray L:=by
 obtain⟨o,ho,h1,h2⟩:=mem_ready.1 h;by_cases hi:i=y
 ·refine mem_ready.2 ⟨zLS x o,by rw[zD6,if_pos hi,ho];rfl,h1,fun e he hb=>?_⟩;simp only[zLS,List.mem_append,List.mem_singleton] at he;rcases he with he|rfl
  ·exact h2 e he hb
  ·exact hx hi
 ·exact mem_ready.2 ⟨o,by rw[zD6,if_neg hi,ho],h1,h2⟩
section
variable {x y:Nat} (hg:∀(i:Nat) o,arr[i]? = some o->o.guard=none)
include hg
theorem zEF {K:Act->World->Prop} {Q:Exit->Act->World->Prop} {i:Nat} {a:Act} {w:World} (h:wpOp P (xQ x y arr.toList).toArray Q i K a w):wpOp P arr Q i K a w:=by
 unfold wpOp at h⊢;rw[zD6] at h;cases ho:arr[i]? with
 | none=>rw[ho] at h;by_cases hi:i=y<;>simp[hi] at h<;>exact h
 | some o =>
  rw[ho] at h;have wt:∀(ar:Array Oper),Region.wanted o (yielded ar a.tmps)=true:=fun ar=>by unfold Region.wanted;rw[hg i o ho]
  have wt2:∀(ar:Array Oper),Region.wanted (zLS x o) (yielded ar a.tmps)=true:=fun ar=>by unfold Region.wanted zLS;simp only[hg i o ho]
  by_cases hi:i=y
  ·rw[if_pos hi] at h;simp only[Option.map_some] at h;rw[if_pos (wt2 _)] at h;simp only;rw[if_pos (wt _)];exact h
  ·rw[if_neg hi] at h;simp only at h⊢;rw[if_pos (wt _)] at h⊢;exact h
theorem zCB {Q:Exit->Act->World->Prop}:∀(f:Nat) (L:Array Bool) (a:Act) (w:World),x<arr.size->L.size=arr.size->L.getD x false=true->wpAny P .any (xQ x y arr.toList).toArray Q f L a w->wpAny P .any arr Q f L a w
 | 0,L,a,w,hxs,hL,hx,h=>by
  refine⟨?_,h.2⟩;cases hr:Region.ready .any arr L with
  | nil=>rfl
  | cons i r =>
   have:=qI (x:=x) (y:=y) (i:=i) (by rw[hr];simp) fun _=>hx;rw[h.1] at this;cases this
 | f+1,L,a,w,hxs,hL,hx,h=>by
  refine⟨fun hr=>h.1 ?_,fun i hi=>?_⟩
  ·cases hr2:Region.ready .any (xQ x y arr.toList).toArray L with
   | nil=>rfl
   | cons i r =>
    have:=zHF (x:=x) (y:=y) (i:=i) (L:=L) (by rw[hr2];simp);rw[hr] at this;cases this
  ·have:=h.2 i (qI hi fun _=>hx);exact wpOp_mono (fun a' w' hw=>zCB f _ a' w' hxs (by simp[hL]) (getD_set_true hx) hw) (zEF hg this)
end
theorem zP6 {x y:Nat} (hxy:x≠y) (hxs:x<arr.size) (hys:y<arr.size) (hq:zAU x y 0 arr.toList=true) {Q:Exit->Act->World->Prop}:∀(f:Nat) (L:Array Bool) (a:Act) (w:World),L.size=arr.size->L.getD x false=false->L.getD y false=false->wpAny P .any (xQ x y arr.toList).toArray Q f L a w->wpAny P .any (xQ y x arr.toList).toArray Q f L a w->wpAny P .any arr Q f L a w:=by
 have hqa:=fun i o (ho:arr[i]? = some o)=>zFW arr.toList 0 i o hq (by rw[Array.getElem?_toList];exact ho);have hg:∀(i:Nat) o,arr[i]? = some o->o.guard=none:=fun i o ho=>(hqa i o ho).1;have some_ready:∀(L:Array Bool) i,L.getD x false=false->L.getD y false=false->i∈Region.ready .any arr L->∃j,j∈Region.ready .any (xQ x y arr.toList).toArray L∨j∈Region.ready .any (xQ y x arr.toList).toArray L:=fun L i hx hy hi=>by
  by_cases h:i=y
  ·exact⟨i,.inr (qI hi fun h'=>absurd (h'.symm.trans h) hxy)⟩
  ·exact⟨i,.inl (qI hi fun h'=>absurd h' h)⟩
 intro f;induction f with
 | zero =>
  intro L a w hL hx hy h1 h2;refine⟨?_,h1.2⟩;cases hr:Region.ready .any arr L with
  | nil=>rfl
  | cons i r =>
   obtain⟨j,hj|hj⟩:=some_ready L i hx hy (by rw[hr];simp)
   ·rw[h1.1] at hj;cases hj
   ·rw[h2.1] at hj;cases hj
 | succ f ih =>
  intro L a w hL hx hy h1 h2;refine⟨fun hr=>h1.1 ?_,fun i hi=>?_⟩
  ·cases hr2:Region.ready .any (xQ x y arr.toList).toArray L with
   | nil=>rfl
   | cons i r =>
    have:=zHF (x:=x) (y:=y) (i:=i) (L:=L) (by rw[hr2];simp);rw[hr] at this;cases this
  ·by_cases hix:i=x
   ·subst hix;have:=h1.2 i (qI hi fun h'=>absurd h' hxy);exact wpOp_mono (fun a' w' hw=>zCB hg f _ a' w' hxs (by simp[hL]) (by simp[Array.getD,hL,hxs]) hw) (zEF hg this)
   ·by_cases hiy:i=y
    ·subst hiy;have:=h2.2 i (qI hi fun h'=>absurd h'.symm hxy);exact wpOp_mono (fun a' w' hw=>zCB hg f _ a' w' hys (by simp[hL]) (by simp[Array.getD,hL,hys]) hw) (zEF hg this)
    ·have g1:=zEF hg (h1.2 i (qI hi fun h'=>absurd h' hiy));have g2:=zEF hg (h2.2 i (qI hi fun h'=>absurd h' hix));obtain⟨o,ho,_,h4⟩:=mem_ready.1 hi;have hquick:zEN o.op=true:=by
      rcases (hqa i o ho).2 with h|h|h|⟨e,he,hb,h⟩
      ·exact absurd (by omega) hix
      ·exact absurd (by omega) hiy
      ·exact h
      ·have:=h4 e he hb;rcases h with h|h
       ·rw[h,hx] at this;cases this
       ·rw[h,hy] at this;cases this
     unfold wpOp at g1 g2⊢;rw[ho] at g1 g2⊢;simp only at g1 g2⊢;have wt:Region.wanted o (yielded arr a.tmps)=true:=by unfold Region.wanted;rw[hg i o ho]
     rw[if_pos wt] at g1 g2⊢;rcases g1 with g1|g1
     ·rcases g2 with g2|g2
      ·refine .inl (Oper.wp_mono (fun a' w' hw=>?_) (zWY hquick g1 g2));exact ih _ a' w' (by simp[hL]) (by rw[getD_set_ne false hix];exact hx) (by rw[getD_set_ne false hiy];exact hy) hw.1 hw.2
      ·exact .inr g2
     ·exact .inr g1
theorem headW {OA DS:Oper->CE->(CE->Prop)->Prop} {rdS:Oper->Nat} (hOA:zAC P OA) (hDS:∀o c k,DS o c k->∃u,o.guard=none/\RunsB P o (den c) u (rdS o)/\Sub (wrU u) (zS o.dst)/\k (capp c u)) (hT:zO P T) (l:List Oper) (π:List Nat) (fs:List Nat) {c:CE} {n:CE->Prop} {cx:Ctx} (hd:∀o∈l,∀d,o.dst=some d->d<cx.n) {e:Env} (he:EnvEq e (den c))
  (hπ:rowOk π l=true) (h:zC5 OA DS rdS P T (zQ π l) (zQ π l) fs 0 c [] fun c bs=>zEK (zQ π l) bs=true/\n c) {Q:Exit->Act->World->Prop} (hQ:∀c g a w,n c->Rel cx g (den c) a w->Q .normal a w) {g:G} {a:Act} {w:World} (hR:Rel cx g e a w):wpAny P .any l.toArray Q l.length (Array.replicate l.length false) a w:=by
 have hrow:=zDD hπ;have hd':∀o∈zQ π l,∀d,o.dst=some d->d<cx.n:=fun o ho d hd'=>by
  unfold zQ at ho;obtain⟨i,hi,hoi⟩:=List.mem_filterMap.1 ho;cases hl:l[i]? with
  | none=>rw[hl] at hoi;cases hoi
  | some o2 =>
   rw[hl] at hoi;simp only[Option.map_some,Option.some.injEq] at hoi;subst hoi;exact hd o2 (List.mem_of_getElem? hl) d hd'
 have hlist:(zQ π l).toArray.toList=zQ π l:=by simp
 obtain⟨S,s1,⟨us0,bs0,s2⟩,s3⟩:=zF7 (arr:=(zQ π l).toArray) hOA hDS hT (zQ π l) fs 0 _ e [] (by rw[hlist];exact h) he (.inl rfl);have hsz:(zQ π l).toArray.size=l.length:=by simp[zBF hrow]
 have hempty:∀(n k:Nat) (b:Bool),(Array.replicate n false).getD k b=if k<n then false else b:=fun n k b=>by
  by_cases h:k<n<;>simp[Array.getD,h]
 have harr:l.toArray.toList=l:=by simp
 have hsl:l.toArray.size=l.length:=by simp
 refine zEZ (arr:=l.toArray) (by rw[harr];exact hrow) l.length _ (Array.replicate l.length false) a _ (by simp) (by simp) (fun i hi b=>?_) ?_
 ·have:=zB8 (hrow.all i (by rw[<-hsl];exact hi));rw[hrow.len] at this;rw[hempty,if_pos this,hempty,if_pos (by rw[<-hsl];exact hi)]
 ·rw[harr];refine zDF (S0:=S) (fun us bs hs=>?_) (by rw[hlist];exact hd') (e0:=e) (by rw[hlist];exact s1) (fun us bs hs g a w hR=>?_) l.length _ us0 bs0 s2 g a _ (by rw[hsz];simp) ?_ (fun k o _ hl=>?_) ?_
  ·obtain⟨_,c',⟨hc,_⟩,_⟩:=s3 us bs hs;rw[hlist];exact zBH hc
  ·obtain⟨_,c',⟨_,h2⟩,h3⟩:=s3 us bs hs;exact hQ c' g a w h2 (hR.eqv h3)
  ·unfold left;exact Nat.le_trans (List.length_filter_le _ _) (by rw[hsz];simp)
  ·rw[hempty] at hl;split at hl<;>cases hl
  ·rw[jC us0 0 _ _ (fun j=>by rw[hempty];split<;>rfl)];exact hR
theorem Wsem.regionHX {OA DS:Oper->CE->(CE->Prop)->Prop} {rdS:Oper->Nat} (hOA:zAC P OA) (hDS:∀o c k,DS o c k->∃u,o.guard=none/\RunsB P o (den c) u (rdS o)/\Sub (wrU u) (zS o.dst)/\k (capp c u)) (hT:zO P T) (hm:P.follows .mixedOrders=true) (kk x y:Nat) (π1 π2 fs1 fs2:List Nat) {id:Nat} {vs:List (Nat×SV)} {ow:List (Nat×Nat×Nat)} {al:List Nat} {hp:List (Nat×HO)} {n:CE->Prop} {xx:Nat->CE->Prop} {r:CE->Prop}
  (hs:zJ0 arr.toList kk=true) (hxy:(Nat.blt x kk && (Nat.blt y kk && !Nat.beq x y))=true) (hq:zAU x y 0 (arr.toList.take kk)=true) (hπ1:rowOk π1 (xQ x y (arr.toList.take kk))=true) (hπ2:rowOk π2 (xQ y x (arr.toList.take kk))=true)
  (h1:crf vs fun vs=>zC5 OA DS rdS P T (zQ π1 (xQ x y (arr.toList.take kk))) (zQ π1 (xQ x y (arr.toList.take kk))) fs1 0 ⟨vs,ow,[],hp⟩ [] fun c bs=>zEK (zQ π1 (xQ x y (arr.toList.take kk))) bs=true/\zNT P T arr.toList n (arr.toList.length-kk) (List.replicate kk true++List.replicate (arr.toList.length-kk) false) c)
  (h2:crf vs fun vs=>zC5 OA DS rdS P T (zQ π2 (xQ y x (arr.toList.take kk))) (zQ π2 (xQ y x (arr.toList.take kk))) fs2 0 ⟨vs,ow,[],hp⟩ [] fun c bs=>zEK (zQ π2 (xQ y x (arr.toList.take kk))) bs=true/\zNT P T arr.toList n (arr.toList.length-kk) (List.replicate kk true++List.replicate (arr.toList.length-kk) false) c):Wsem P (.region id arr true) ⟨vs,ow,al,hp⟩ n xx r:=by
 intro cx hyk hk g a w hR;have hsp:=zJX hs;simp only[Bool.and_eq_true] at hxy;have hxk:x<kk:=Nat.le_of_ble_eq_true hxy.1;have hyk':y<kk:=Nat.le_of_ble_eq_true hxy.2.1;have hne:x≠y:=fun h=>by have:=hxy.2.2;rw[h,Nat.beq_refl] at this;cases this
 simp only[zZ,List.all_eq_true] at hk;have hd:∀o∈arr.toList,∀d,o.dst=some d->d<cx.n:=fun o ho d hd=>by
  have:=hk o ho;rw[hd] at this;exact Nat.le_of_ble_eq_true this
 have hda:∀x y,∀o∈xQ x y (arr.toList.take kk),∀d,o.dst=some d->d<cx.n:=fun x y o ho d hdo=>by
  obtain⟨i,hi⟩:=List.mem_iff_getElem?.1 ho;rw[zKR] at hi;split at hi
  ·cases hi2:(arr.toList.take kk)[i]? with
   | none=>rw[hi2] at hi;cases hi
   | some o2 =>
    rw[hi2] at hi;simp only[Option.map_some,Option.some.injEq] at hi;subst hi;exact hd o2 (List.mem_of_mem_take (List.mem_of_getElem? hi2)) d hdo
  ·exact hd o (List.mem_of_mem_take (List.mem_of_getElem? hi)) d hdo
 simp only[zFE] at h1 h2;obtain⟨g1,hR1⟩:=(hR.grow (Grow.drew w)).refresh;have hce:=yT ⟨vs,ow,al,hp⟩;have hempty:∀(n k:Nat) (b:Bool),(Array.replicate n false).getD k b=if k<n then false else b:=fun n k b=>by
  by_cases h:k<n<;>simp[Array.getD,h]
 have hn:arr.toList.length=arr.size:=by simp
 rw[hn] at h1 h2;have hle:=hsp.le;have hlk:(arr.toList.take kk).length=kk:=by simp;omega
 refine wp_region_any hm ?_;have he:kk+(arr.size-kk)=arr.size:=Nat.add_sub_cancel' hle;have hgo:∀(Q:Exit->Act->World->Prop) a w,wpAny P .any arr Q (kk+(arr.size-kk)) (Array.replicate arr.size false) a w->wpAny P .any arr Q arr.size (Array.replicate arr.size false) a w:=fun Q a w h=>by rw[he] at h;exact h
 refine hgo _ _ _ (zKQ (m:=arr.size-kk) hsp (Lf:=(List.replicate kk true++List.replicate (arr.size-kk) false).toArray) (by simp;omega) (fun i b hi=>by simp[Array.getD_eq_getD_getElem?,List.getElem?_append,hi]) (fun i b h1 h2=>by
  have q1:¬i<kk:=by omega
  have q2:i-kk<arr.size-kk:=by omega
  simp[Array.getD_eq_getD_getElem?,List.getElem?_append,q1,q2]) kk (Array.replicate kk false) (Array.replicate arr.size false) a _ (by simp) (by simp) (fun i hi b=>by rw[hempty,hempty,if_pos hi,if_pos (by omega)]) (fun i b h1 h2=>by rw[hempty,if_pos h2]) ?_)
 have hsz:(arr.toList.take kk).toArray.size=kk:=by simp;omega
 have htl:(arr.toList.take kk).toArray.toList=arr.toList.take kk:=by simp
 have hend:∀c g a w,zNT P T arr.toList n (arr.size-kk) (List.replicate kk true++List.replicate (arr.size-kk) false) c->Rel cx g (den c) a w->zSX (fun a w=>wpAny P .any arr (zFS cx n xx r) (arr.size-kk) (List.replicate kk true++List.replicate (arr.size-kk) false).toArray a w) (zFS cx n xx r) .normal a w:=fun c g a w hA hR =>
  zQ7 hT hd hsp.ng (fun c g a w hk hR=>⟨c,g,hk,hR⟩) _ _ c g a w (by simp;omega) hA hR
 refine zP6 (arr:=(arr.toList.take kk).toArray) hne (by rw[hsz];exact hxk) (by rw[hsz];exact hyk') (by rw[htl];exact hq) kk _ a _ (by rw[hsz];simp) (by rw[hempty,if_pos hxk]) (by rw[hempty,if_pos hyk']) ?_ ?_
 ·rw[htl];have:=headW hOA hDS hT (xQ x y (arr.toList.take kk)) π1 fs1 (hda x y) (e:=Fp.refresh (den ⟨vs,ow,al,hp⟩)) (by rw[hce];exact EnvEq.refl _) hπ1 h1 hend hR1;rw[zG4,hlk] at this;exact this
 ·rw[htl];have:=headW hOA hDS hT (xQ y x (arr.toList.take kk)) π2 fs2 (hda y x) (e:=Fp.refresh (den ⟨vs,ow,al,hp⟩)) (by rw[hce];exact EnvEq.refl _) hπ2 h2 hend hR1;rw[zG4,hlk] at this;exact this
end
end Fp
