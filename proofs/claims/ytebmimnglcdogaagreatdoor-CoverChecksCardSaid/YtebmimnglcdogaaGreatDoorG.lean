/- The closure that compiles. No condition. -/
import Derived.Test.YtebmimnglcdogaaGreatDoorF
import Derived.Test.YtebmimnglcdogaaGreatDoorFpI
set_option linter.unusedSimpArgs false
set_option linter.unusedVariables false
namespace Go.Proofs.YtebmimnglcdogaaGreatDoor
open Go Fp
set_option maxRecDepth 10000
set_option maxHeartbeats 16000000
set_option linter.unusedVariables false
abbrev zAL (b:Nat):Value := .pointer (some ⟨b,0,none⟩)
abbrev fvM (b1 b2 b3:Nat):Value := .func (.func zF2) #[] #[zAL b1,zAL b2,zAL b3]
abbrev hpM (to:Tp) (b1 b2 b3:Nat):List (Nat×HO):=[(b1,HO.cells (eTy to).cells),(b2,HO.cells [cAV]),(b3,HO.cells [.lit (fvM b1 b2 b3)])]
def qV (to:Tp) (b:Nat->Int) (b1 b2 b3:Nat) (n:Nat) (l:List Rw) (ns:List ByteArray):Prop :=
 CallsG Tryz.prog (fvM b1 b2 b3) (hpM to b1 b2 b3) [.sl (yL 3 b l),.sl (eSs ns)] [] fun r o h=>r=eCr to (made b n l ns)/\o=0/\h=hpM to b1 b2 b3
theorem zML (to:Tp) (b:Nat->Int) (b1 b2 b3:Nat) (n:Nat) (ns:List ByteArray):qV to b b1 b2 b3 (n+1) [] ns:=by
 unfold qV;refine yS (first:=[]) (cap:=[zAL b1,zAL b2,zAL b3]) ttok mixed Tryz.func29 rfl (by rfl) rfl (Nat.le_of_ble_eq_true rfl) (by kernel_rfl) ?_;refine⟨fun _=>?_,fun h=>by cases h⟩;exact⟨0,_,rfl,Nat.le_refl 4,rfl,rfl,rfl⟩
theorem zVT (l:List Bd) (hl:l.length<20000):CallsG Tryz.prog (fnv qZ) [] [.sl (eLs l)] [] fun r o h=>r = .sl (eLs l)/\o=16/\h=[]:=by
 cases l with
 | nil =>
  refine zED ttok mixed Tryz.func33 rfl (by rfl) (Nat.le_of_ble_eq_true rfl) (by kernel_rfl) ?_;refine⟨?_,?_⟩
  ·exact .inl ⟨rfl,rfl,rfl⟩
  exact⟨by decide,fun a ha=>by simp at ha,zVN [],.inr ⟨rfl,rfl,rfl⟩⟩
 | cons q l =>
  refine zED ttok mixed Tryz.func33 rfl (by rfl) (Nat.le_of_ble_eq_true rfl) (by kernel_rfl) ?_;exact⟨by simp[eLs] at hl⊢;omega,fun a ha=>by simp at ha,zVN (q::l),.inr ⟨rfl,rfl,rfl⟩⟩
theorem zQB {α β:Type} {p:α} {s:β}:∀{ps:List α} {ns:List β},ns[ps.length]? = some s->(ps++[p]).zip ns=ps.zip ns++[(p,s)]
 | [],[],h=>by simp at h
 | [],x::ns,h=>by simp at h;subst h;simp
 | q::ps,[],h=>by simp at h
 | q::ps,x::ns,h=>by simp only[List.cons_append,List.zip_cons_cons];rw[zQB (by simpa using h)]
theorem zWO (ps:List Pt) (p:Pt) (ns:List ByteArray) (s:ByteArray) (h:ns[ps.length]? = some s):ownB (ps++[p]) ns=ownB ps ns++if p.f=2 then [(p.s,p.t,s)] else []:=by
 unfold ownB;rw[zQB h,List.filterMap_append]
 congr 1
 by_cases hp:p.f=2<;>simp[hp]
theorem zX5 (ps:List Pt) (ns:List ByteArray):(ownB ps ns).length<=ps.length:=by
 unfold ownB;have:=List.length_filterMap_le (fun q:Pt×ByteArray=>if q.1.f=2 then some (q.1.s,q.1.t,q.2) else none) (ps.zip ns);have h2:(ps.zip ns).length<=ps.length:=by rw[List.length_zip];omega
 omega
abbrev zC:AV := .agg [.lit (.int .i64 0),.lit (.int .i64 0),.lit (.string .empty),.lit (.int .i64 0),.lit (.int .i64 0),.lit (.string .empty),.sl [],.sl [],.sl [],.sl []]
theorem zU7 (to:Tp) (b:Nat->Int) (b1 b2 b3:Nat) (n:Nat) (r:Rw) (l:List Rw) (ns:List ByteArray) (ho:∀x∈r.ps,x.opn=true) (hn:ns.length=r.ps.length) (hl:r.ps.length<10000) (hb:r.lost.length<10000):qV to b b1 b2 b3 (n+1) (r::l) ns:=by
 have hI:=zCP r.ps (-1) hl (.inr ⟨rfl,ho⟩);have hC:=zVT r.lost (by omega);unfold qV;refine yS (first:=[]) (cap:=[zAL b1,zAL b2,zAL b3]) ttok mixed Tryz.func29 rfl (by rfl) rfl (Nat.le_of_ble_eq_true rfl) (by kernel_rfl) ?_;refine⟨fun h=>?_,fun _=>?_⟩
 ·have h:=of_decide_eq_true h;rw[jQ] at h;simp at h;omega
 refine⟨_,by omega,zTZ (l:=r::l) (k:=0) (by simp),rfl,?_⟩;refine .inl ⟨_,hI,?_⟩;refine⟨fun _=>?_,fun h=>absurd h (by decide)⟩;refine .inr (.inr (.inr (.inr (.inr (.inl ⟨[],[],[],_,rfl,List.nodup_nil,rfl,hC,?_⟩)))));rintro r' w hout ⟨rfl,rfl,rfl⟩;refine⟨{k:Nat // k<=r.ps.length},fun k=>{vs:=[(6,.box 0 (.sl (eSs ns))),(7,.box 0 zC),(8,.box 0 (eRw 3 b r)),(10,.v (.sl (eLs (r.lost++ownB (r.ps.take k.1) ns)))),(40,.v (.sl (zM r.ps))),(41,sv (r.ps.length:Nat)),(42,sv (k.1:Nat))],ow:=[(10,0,16)],hp:=hpM to b1 b2 b3},
  fun k=>r.ps.length-k.1,⟨0,Nat.zero_le _⟩,⟨⟨rfl,rfl,rfl,?_,rfl,svc (by rw[zFU];rfl),rfl,trivial⟩,⟨rfl,trivial⟩,rfl⟩,?_⟩
 ·show SV.v (AV.sl (eLs r.lost))=SV.v (AV.sl (eLs (r.lost++ownB [] ns)));rw[show ownB [] ns=[] by simp[ownB],List.append_nil]
 rintro⟨k,hk⟩;refine⟨fun h=>?_,fun h=>?_⟩
 ·have h:k<r.ps.length:=by have h:=of_decide_eq_true h;simp only at h;omega
  refine⟨_,by omega,zEN h,rfl,?_⟩;have hs:ns[k]? = some (ns[k]'(by omega)):=List.getElem?_eq_getElem _;have hsn:=zWO (r.ps.take k) r.ps[k] ns _ (by rw[show (r.ps.take k).length=k by simp;omega];exact hs);rw[<-List.take_succ_eq_append_getElem h] at hsn;by_cases h2:r.ps[k].f=2
  ·refine⟨fun hbs=>?_,fun hbs=>?_⟩<;>first|(exfalso;revert hbs;(simp[h2]);done)|skip
   have hv:=zNX (ns[k]'(by omega));have hsg:(eSs ns)[k]? = some (.lit (.string (ns[k]'(by omega)))):=zKW (by omega);have hol:=zX5 (r.ps.take k) ns;refine⟨_,by omega,hsg,rfl,?_⟩;refine .inl ⟨_,hv,?_⟩;refine⟨by simp[eLs] at *;omega,zVN _,zVN [(r.ps[k].s,r.ps[k].t,ns[k]'(by omega))],?_⟩;refine⟨by kernel_rfl,?_⟩;refine⟨⟨k+1,h⟩,by simp;omega,⟨rfl,rfl,rfl,?_,rfl,rfl,svc (wrap_succ (k:=k) (by omega)),trivial⟩,⟨rfl,trivial⟩,rfl⟩;show SV.v (AV.sl (eLs (r.lost++ownB (r.ps.take k) ns)++eLs [(r.ps[k].s,r.ps[k].t,ns[k]'(by omega))]))=SV.v (AV.sl (eLs (r.lost++ownB (r.ps.take (k+1)) ns)));rw[hsn,if_pos h2];simp[eLs]
  ·refine⟨fun hbs=>?_,fun hbs=>?_⟩<;>first|(exfalso;revert hbs;(simp[h2]);done)|skip
   refine⟨⟨k+1,h⟩,by simp;omega,⟨rfl,rfl,rfl,?_,rfl,rfl,svc (wrap_succ (k:=k) (by omega)),trivial⟩,⟨rfl,trivial⟩,rfl⟩;show SV.v (AV.sl (eLs (r.lost++ownB (r.ps.take k) ns)))=SV.v (AV.sl (eLs (r.lost++ownB (r.ps.take (k+1)) ns)));rw[hsn,if_neg h2,List.append_nil]
 ·have h:k=r.ps.length:=by have h:=of_decide_eq_false h;simp only at h;omega
  subst h;have hm:made b (n+1) (r::l) ns = .leaf (r.lost++ownB r.ps ns) (b r.body):=by rw[made,zCY ho]
  rw[List.take_length,hm];generalize r.lost++ownB r.ps ns=bs;cases bs with
  | nil =>
   refine⟨fun _=>?_,fun h=>by cases h⟩;exact⟨rfl,rfl,rfl⟩
  | cons q bs =>
   refine⟨fun h=>by have h:=of_decide_eq_true h;simp[eLs] at h;omega,fun _=>?_⟩;exact⟨rfl,rfl,rfl⟩
theorem xU (v:ByteArray) (n:Nat):(yE v n).length=n:=by simp[yE]
theorem zR2 (v:ByteArray) (n:Nat):yE v (n+1)=yE v n++[wK v n]:=by unfold yE;rw[List.range_succ,List.map_append];rfl
theorem z3R (l:List ByteArray):(eSs l).length=l.length:=by simp[eSs]
theorem z3W (to:Tp) {α:Type} (f:α->Hd) (g:α->Cr) (l:List α):Uni 14 (l.map fun x=>zIL to (f x) (g x)):=wW (f:=fun x=>zIL to (f x) (g x)) (n:=14) (fun _=>rfl) l
abbrev cC (to:Tp) (v:ByteArray) (alts:List AV):AV := .agg [.lit (.int .i64 9),.lit (.int .i64 0),.lit (.string .empty),.lit (.int .i64 to.form),.lit (.int .i64 to.num),.lit (.string to.nam),.sl to.eArgs,.sl [z5E v],.sl [],.sl alts]
theorem zTG (to:Tp) (v:ByteArray) (hs:List Hd) (ks:List Cr):eCr to (.cas v hs ks)=cC to v (Cr.altsL to hs ks):=by
 unfold eCr;rw[zO0];rfl
theorem z0F (to : Tp) (b : Nat -> Int) (b1 b2 b3 : Nat) (n : Nat) (r : Rw) (l : List Rw) (ns : List ByteArray) (a : Nat) (p : Pt) (v : ByteArray) (qs : List (ByteArray × List Tp))
    (hp : r.ps[a]? = some p) (hv : ns[a]? = some v) (hsh : zND r.ps a) (h4 : p.f = 4) (hn : ns.length = r.ps.length) (hl : r.ps.length < 10000) (hll : (r :: l).length < 10000) (hvs : v.size <= 100000)
    (hC : zB Tryz.prog zF8 [cAV, .sl (yL 3 b (r :: l)), .lit (.int .i64 (a : Nat))] (.sl (wB qs))) (hq3 : qs.length <= 3) (hq2 : ∀ q ∈ qs, q.2.length <= 2)
    (hcol : ∀ x ∈ r :: l, zHS a x) (hcc : jK a (r :: l) = some qs)
    (hM : ∀ q ∈ qs, qV to b b1 b2 b3 n (parts (.con q.1 q.2.length) a v (r :: l)) (xJ ns a (yE v q.2.length))) : qV to b b1 b2 b3 (n + 1) (r :: l) ns := by
  have hI := zCP r.ps a hl hsh;have hva := zNX v;have hal : a < ns.length := (List.getElem?_eq_some_iff.1 hv).1;have hsg : (eSs ns)[a]? = some (.lit (.string v)) := by simp [eSs, hv]
  have hpg : (zM r.ps)[a]? = some (ePt p) := by simp [zM, hp]
  have hF := fun (K : Kn) (hm : K.many <= 2) => zA5 3 b K (r :: l) a v hcol hm hll;have hix : zEW r.ps = some a := by
    rcases hsh with ⟨k, hk, h1, h2, h3⟩ | ⟨h, _⟩
    · have : a = k := by omega
      subst this; exact zBD h1 h2 h3
    · omega
  have hmd : made b (n + 1) (r :: l) ns = .cas v (qs.map fun q => (1, 0, q.1, yE v q.2.length)) (qs.map fun q => made b n (parts (.con q.1 q.2.length) a v (r :: l)) (xJ ns a (yE v q.2.length))) := by
    rw [made, hix]; simp only [hp, hv, if_pos h4, hcc]
  unfold qV;rw [hmd];have hW := fun (own : List ByteArray) (ho : own.length < 10000) => zDO ns own a hal (by omega) ho;generalize hR : r :: l = rows at *;have hR0 : rows[0]? = some r := by rw [<- hR]; rfl
  have hRw : (yL 3 b rows)[0]? = some (eRw 3 b r) := by simp [yL, hR0]
  have hRl : rows.length ≠ 0 := by rw [<- hR]; simp
  refine yS (first := []) (cap := [zAL b1, zAL b2, zAL b3]) ttok mixed Tryz.func29 rfl (by rfl) rfl (Nat.le_of_ble_eq_true rfl) (by kernel_rfl) ?_;refine ⟨fun h => ?_, fun _ => ?_⟩
  · have h := of_decide_eq_true h; rw [jQ] at h; omega
  refine ⟨_, by omega, hRw, rfl, ?_⟩;refine .inl ⟨_, hI, ?_⟩;refine ⟨fun h => by have h := of_decide_eq_true h; omega, fun _ => ?_⟩;refine ⟨_, by omega, hsg, rfl, ?_⟩;refine .inl ⟨_, hva, ?_⟩;refine ⟨0, _, rfl, Nat.le_refl 4, ?_⟩;refine ⟨by kernel_rfl, ?_⟩;refine .inl ?_;refine ⟨_, by omega, hpg, rfl, ?_⟩;refine ⟨fun hbs => ?_, fun hbs => ?_⟩ <;> first | (exfalso; revert hbs; (simp [h4]); done) | skip
  refine ⟨1, _, _, rfl, rfl, ?_⟩;refine .inl ⟨_, hC, ?_⟩
  refine ⟨{k : Nat // k <= qs.length}, fun k => { vs := [(0, .v (.sl (yL 3 b rows))), (2, .v (.lit (zAL b1))), (3, .v (.lit (zAL b2))), (4, .v (.lit (zAL b3))), (7, .box 0 zC), (9, .v (.ptr [.lit (.int .i64 (a : Nat))])), (13, .v (.lit (.string v))),
      (14, .box 0 (cC to v ((qs.take k.1).map fun q => zIL to (1, 0, q.1, yE v q.2.length) (made b n (parts (.con q.1 q.2.length) a v rows) (xJ ns a (yE v q.2.length)))))), (15, .v (.fn (.func xQ) [] [.ptr [.sl (eSs ns)], .ptr [.lit (.int .i64 (a : Nat))]])),
      (94, .v (.sl (wB qs))), (95, sv (qs.length : Nat)), (96, sv (k.1 : Nat))], ow := [(14, 9, 15)], hp := hpM to b1 b2 b3 },
    fun k => qs.length - k.1, ⟨0, Nat.zero_le _⟩, ⟨⟨rfl, rfl, rfl, rfl, rfl, rfl, rfl, rfl, rfl, rfl, svc (by rw [zZM]), rfl, trivial⟩, ⟨trivial, trivial⟩, rfl⟩, ?_⟩
  rintro ⟨k, hk⟩;refine ⟨fun h => ?_, fun h => ?_⟩
  · have h : k < qs.length := by have h := of_decide_eq_true h; simp only at h; omega
    have hqm := List.getElem_mem h;have hqg : (wB qs)[k]? = some (zO1 qs[k]) := zD9 h;have hq := hq2 _ hqm;have hMk := hM _ hqm;have htk := List.take_succ_eq_append_getElem h;generalize qs[k] = q at *;refine ⟨_, by omega, hqg, rfl, ?_⟩
    refine ⟨{i : Nat // i <= q.2.length}, fun i => { vs := [(0, .v (.sl (yL 3 b rows))), (2, .v (.lit (zAL b1))), (3, .v (.lit (zAL b2))), (4, .v (.lit (zAL b3))), (7, .box 0 zC), (9, .v (.ptr [.lit (.int .i64 (a : Nat))])), (13, .v (.lit (.string v))),
        (14, .box 0 (cC to v ((qs.take k).map fun q => zIL to (1, 0, q.1, yE v q.2.length) (made b n (parts (.con q.1 q.2.length) a v rows) (xJ ns a (yE v q.2.length)))))), (15, .v (.fn (.func xQ) [] [.ptr [.sl (eSs ns)], .ptr [.lit (.int .i64 (a : Nat))]])),
        (17, .box 0 (zO1 q)), (18, .v (.sl (eSs (yE v i.1)))), (94, .v (.sl (wB qs))), (95, sv (qs.length : Nat)), (96, sv (k : Nat)), (102, sv (q.2.length : Nat)), (103, sv (i.1 : Nat))], ow := [(14, 9, 15), (18, 0, 2)], hp := hpM to b1 b2 b3 },
      fun i => q.2.length - i.1, ⟨0, Nat.zero_le _⟩, ⟨⟨rfl, rfl, rfl, rfl, rfl, rfl, rfl, rfl, rfl, rfl, rfl, rfl, rfl, rfl, svc (by rw [z1S]), rfl, trivial⟩, ⟨rfl, trivial, trivial⟩, rfl⟩, ?_⟩
    rintro ⟨i, hi⟩;refine ⟨fun h' => ?_, fun h' => ?_⟩
    · have h' : i < q.2.length := by have h' := of_decide_eq_true h'; simp only at h'; omega
      refine ⟨by show v.size + 1 <= _; omega, ?_⟩;refine .inl ⟨_, zNK i (by omega), ?_⟩;refine ⟨by show (v ++ ⟨#[64]⟩).size + (dig i).size <= _; rw [ByteArray.size_append]; show v.size + 1 + 1 <= _; omega, ?_⟩;refine ⟨by rw [z3R, xU]; simp; omega, jU _, jU [wK v i], ?_⟩;refine ⟨⟨i + 1, h'⟩, by simp; omega, ⟨rfl, rfl, rfl, rfl, rfl, rfl, rfl, rfl, rfl, rfl, ?_, rfl, rfl, rfl, rfl, svc (wrap_succ (k := i) (by omega)), trivial⟩, ⟨rfl, rfl, trivial⟩, rfl⟩;show SV.v (AV.sl (eSs (yE v i) ++ eSs [wK v i])) = SV.v (AV.sl (eSs (yE v (i + 1))));rw [zR2]; simp [eSs]
    · have h' : i = q.2.length := by have h' := of_decide_eq_false h'; simp only at h'; omega
      subst h';have hO := zOY q.1 q.2.length;have hFq := hF (.con q.1 q.2.length) hq;have hWq := hW (yE v q.2.length) (by rw [xU]; omega);have e1 : ((Kn.many (.con q.1 q.2.length) : Nat) : Int) = ((eSs (yE v q.2.length)).length : Nat) := by rw [z3R, xU]; rfl
      rw [e1] at hFq;refine ⟨2, _, _, rfl, rfl, ?_⟩;refine .inl ⟨_, hO, ?_⟩;refine .inl ⟨_, hFq, ?_⟩;refine .inl ⟨_, hWq, ?_⟩;refine .inr (.inr (.inl ⟨[0, 1, 2], hpM to b1 b2 b3, _, rfl, by decide, hMk, ?_⟩));refine ⟨by kernel_rfl, ?_⟩;refine ⟨by simp; omega, z3W to (fun q : ByteArray × List Tp => (1, 0, q.1, yE v q.2.length)) (fun q => made b n (parts (.con q.1 q.2.length) a v rows) (xJ ns a (yE v q.2.length))) _, zCV rfl, ?_⟩;refine ⟨⟨k + 1, h⟩, by simp; omega, ⟨rfl, rfl, rfl, rfl, rfl, rfl, rfl, ?_, rfl, rfl, rfl, svc (wrap_succ (k := k) (by omega)), trivial⟩, ⟨rfl, trivial⟩, rfl⟩;show SV.box 0 (cC to v (((qs.take k).map fun q => zIL to (1, 0, q.1, yE v q.2.length) (made b n (parts (.con q.1 q.2.length) a v rows) (xJ ns a (yE v q.2.length)))) ++ [zIL to (1, 0, q.1, yE v q.2.length) (made b n (parts (.con q.1 q.2.length) a v rows) (xJ ns a (yE v q.2.length)))])) = _;rw [htk, List.map_append]; rfl
  · have h : k = qs.length := by have h := of_decide_eq_false h; simp only at h; omega
    subst h;rw [zTG, zGP, List.take_length];exact ⟨rfl, rfl, rfl⟩
theorem zXZ (to : Tp) (b : Nat -> Int) (b1 b2 b3 : Nat) (n : Nat) (r : Rw) (l : List Rw) (ns : List ByteArray) (a : Nat) (p : Pt) (v : ByteArray) (is : List Int)
    (hp : r.ps[a]? = some p) (hv : ns[a]? = some v) (hsh : zND r.ps a) (h4 : p.f ≠ 4) (hn : ns.length = r.ps.length) (hl : r.ps.length < 10000) (hll : (r :: l).length < 10000) (hvs : v.size <= 100000)
    (hC : zB Tryz.prog zF6 [.sl (yL 3 b (r :: l)), .lit (.int .i64 (a : Nat))] (.sl (eIs is))) (his : is.length < 10000) (hie : intsOf a (r :: l) = is)
    (hcol : ∀ x ∈ r :: l, zHS a x)
    (hM : ∀ x ∈ is, qV to b b1 b2 b3 n (parts (.int x) a v (r :: l)) (xJ ns a [])) (hN : qV to b b1 b2 b3 n (parts .none a v (r :: l)) (xJ ns a [])) : qV to b b1 b2 b3 (n + 1) (r :: l) ns := by
  have hI := zCP r.ps a hl hsh;have hva := zNX v;have hal : a < ns.length := (List.getElem?_eq_some_iff.1 hv).1;have hsg : (eSs ns)[a]? = some (.lit (.string v)) := by simp [eSs, hv]
  have hpg : (zM r.ps)[a]? = some (ePt p) := by simp [zM, hp]
  have hF := fun (K : Kn) (hm : K.many <= 2) => zA5 3 b K (r :: l) a v hcol hm hll;have hix : zEW r.ps = some a := by
    rcases hsh with ⟨k, hk, h1, h2, h3⟩ | ⟨h, _⟩
    · have : a = k := by omega
      subst this; exact zBD h1 h2 h3
    · omega
  have hmd : made b (n + 1) (r :: l) ns = .cas v (is.map (fun x => (2, x, .empty, [])) ++ [(3, 0, .empty, [])]) (is.map (fun x => made b n (parts (.int x) a v (r :: l)) (xJ ns a [])) ++ [made b n (parts .none a v (r :: l)) (xJ ns a [])]) := by
    rw [made, hix]; simp only [hp, hv, if_neg h4, hie]
  unfold qV;rw [hmd];have hW := zDO ns [] a hal (by omega) (by simp);generalize hR : r :: l = rows at *;have hR0 : rows[0]? = some r := by rw [<- hR]; rfl
  have hRw : (yL 3 b rows)[0]? = some (eRw 3 b r) := by simp [yL, hR0]
  have hRl : rows.length ≠ 0 := by rw [<- hR]; simp
  refine yS (first := []) (cap := [zAL b1, zAL b2, zAL b3]) ttok mixed Tryz.func29 rfl (by rfl) rfl (Nat.le_of_ble_eq_true rfl) (by kernel_rfl) ?_;refine ⟨fun h => ?_, fun _ => ?_⟩
  · have h := of_decide_eq_true h; rw [jQ] at h; omega
  refine ⟨_, by omega, hRw, rfl, ?_⟩;refine .inl ⟨_, hI, ?_⟩;refine ⟨fun h => by have h := of_decide_eq_true h; omega, fun _ => ?_⟩;refine ⟨_, by omega, hsg, rfl, ?_⟩;refine .inl ⟨_, hva, ?_⟩;refine ⟨0, _, rfl, Nat.le_refl 4, ?_⟩;refine ⟨by kernel_rfl, ?_⟩;refine .inl ?_;refine ⟨_, by omega, hpg, rfl, ?_⟩;refine ⟨fun hbs => ?_, fun hbs => ?_⟩ <;> first | (exfalso; revert hbs; (simp [h4]); done) | skip
  refine .inl ⟨_, hC, ?_⟩
  refine ⟨{k : Nat // k <= is.length}, fun k => { vs := [(0, .v (.sl (yL 3 b rows))), (2, .v (.lit (zAL b1))), (3, .v (.lit (zAL b2))), (4, .v (.lit (zAL b3))), (7, .box 0 zC), (9, .v (.ptr [.lit (.int .i64 (a : Nat))])), (13, .v (.lit (.string v))),
      (14, .box 0 (cC to v ((is.take k.1).map fun x => zIL to (2, x, .empty, []) (made b n (parts (.int x) a v rows) (xJ ns a []))))), (15, .v (.fn (.func xQ) [] [.ptr [.sl (eSs ns)], .ptr [.lit (.int .i64 (a : Nat))]])),
      (143, .v (.sl (eIs is))), (144, sv (is.length : Nat)), (145, sv (k.1 : Nat))], ow := [(14, 9, 15)], hp := hpM to b1 b2 b3 },
    fun k => is.length - k.1, ⟨0, Nat.zero_le _⟩, ⟨⟨rfl, rfl, rfl, rfl, rfl, rfl, rfl, rfl, rfl, rfl, svc (by rw [zW1]), rfl, trivial⟩, ⟨trivial, trivial⟩, rfl⟩, ?_⟩
  rintro ⟨k, hk⟩;refine ⟨fun h => ?_, fun h => ?_⟩
  · have h : k < is.length := by have h := of_decide_eq_true h; simp only at h; omega
    have hqm := List.getElem_mem h;have hqg := zVG h;have hMk := hM _ hqm;have htk := List.take_succ_eq_append_getElem h;generalize is[k] = x at *;have hO := zPN x;have hFq := hF (.int x) (Nat.zero_le 2);refine ⟨_, by omega, hqg, rfl, ?_⟩;refine ⟨2, _, _, rfl, rfl, ?_⟩;refine .inl ⟨_, hO, ?_⟩;refine .inl ⟨_, hFq, ?_⟩;refine .inl ⟨_, hW, ?_⟩;refine .inr (.inr (.inl ⟨[0, 1, 2], hpM to b1 b2 b3, _, rfl, by decide, hMk, ?_⟩));refine ⟨by simp; omega, z3W to (fun x : Int => (2, x, .empty, [])) (fun x => made b n (parts (.int x) a v rows) (xJ ns a [])) _, zCV rfl, ?_⟩;refine ⟨by kernel_rfl, ?_⟩;refine ⟨⟨k + 1, h⟩, by simp; omega, ⟨rfl, rfl, rfl, rfl, rfl, rfl, rfl, ?_, rfl, rfl, rfl, svc (wrap_succ (k := k) (by omega)), trivial⟩, ⟨rfl, trivial⟩, rfl⟩;show SV.box 0 (cC to v (((is.take k).map fun x => zIL to (2, x, .empty, []) (made b n (parts (.int x) a v rows) (xJ ns a []))) ++ [zIL to (2, x, .empty, []) (made b n (parts (.int x) a v rows) (xJ ns a []))])) = _;rw [htk, List.map_append]; rfl
  · have h : k = is.length := by have h := of_decide_eq_false h; simp only at h; omega
    subst h;have hFq := hF .none (Nat.zero_le 2);rw [zTG, zME to _ _ _ _ (by simp), zGP, List.take_length, zA0, zHA];refine ⟨2, _, _, rfl, rfl, ?_⟩;refine .inl ⟨_, hFq, ?_⟩;refine .inl ⟨_, hW, ?_⟩;refine .inr (.inr (.inl ⟨[0, 1, 2], hpM to b1 b2 b3, _, rfl, by decide, hN, ?_⟩));refine ⟨by simp; omega, z3W to (fun x : Int => (2, x, .empty, [])) (fun x => made b n (parts (.int x) a v rows) (xJ ns a [])) _, zCV rfl, ?_⟩;refine ⟨by kernel_rfl, ?_⟩;exact ⟨rfl, rfl, rfl⟩
theorem zF3 (ns own:List ByteArray) (a:Nat) (h:a<ns.length):(xJ ns a own).length=a+own.length+(ns.length-(a+1)):=by
 simp[xJ];omega
theorem zZ0 {ns own:List ByteArray} {a:Nat} {s:ByteArray} (h:s∈xJ ns a own):s∈ns∨s∈own:=by
 unfold xJ at h;rcases List.mem_append.1 h with h|h
 ·exact .inl (List.mem_of_mem_take h)
 ·rcases List.mem_append.1 h with h|h
  ·exact .inr h
  ·exact .inl (List.mem_of_mem_drop h)
theorem zYD {v s:ByteArray} {n:Nat} (h:s∈yE v n):s.size=v.size+2:=by
 obtain⟨i,_,rfl⟩:=List.mem_map.1 h;unfold wK;rw[ByteArray.size_append,ByteArray.size_append];rfl
theorem z1V (to:Tp) (b:Nat->Int) (b1 b2 b3:Nat):∀(n:Nat) (l:List Rw) (cs:List Nat) (ns:List ByteArray),RowsTy cs n l->ns.length=cs.length->(∀s∈ns,s.size+2*n<=100000)->qV to b b1 b2 b3 n l ns:=by
 intro n;induction n with
 | zero=>intro l cs ns h;have:=h.fuel;omega
 | succ n ih =>
  intro l cs ns h hn hs;have hcap:=h.cap;have hfu:=h.fuel;cases l with
  | nil=>exact zML to b b1 b2 b3 n ns
  | cons r l =>
   have hrow:=h.row r (by simp);have hrt:=hrow.ty;have hpl:=hrt.len;have hlost:=hrow.lost;obtain⟨i,hi⟩:=zG6 r.ps;have hi0:=hi;rcases hi with⟨k,rfl,hk,h1,h2⟩|⟨rfl,ho⟩
   ·obtain⟨t,ha⟩:∃t,cs[k]? = some t:=⟨_,List.getElem?_eq_getElem (by omega)⟩
    obtain⟨p,hp,hty⟩:=hrt.get ha;have hpk:p=r.ps[k]:=by rw[List.getElem?_eq_getElem hk] at hp;injection hp with hp;exact hp.symm
    have hop:p.opn=false:=by rw[hpk];exact h1
    obtain⟨v,hv⟩:∃v,ns[k]? = some v:=⟨_,List.getElem?_eq_getElem (by omega)⟩
    have hvm:=hs v (List.mem_of_getElem? hv);have hcol:∀x∈r::l,zHS k x:=fun x hx=>(h.row x hx).col ha (by omega);have hsz:∀own,(∀s∈own,s.size=v.size+2)->∀s∈xJ ns k own,s.size+2*n<=100000:=fun own ho s hm=>by
     rcases zZ0 hm with hm|hm
     ·have:=hs s hm;omega
     ·have:=ho s hm;omega
    have less:∀K,Fit t K []->qV to b b1 b2 b3 n (parts K k v (r::l)) (xJ ns k []):=fun K hK =>
     ih _ _ _ (h.lessA ha hK) (by rw[zF3 _ _ _ (by omega)];simp;omega) (hsz [] (fun s hm=>by simp at hm))
    have h43:p.f=4∨p.f=3:=by
     have:=hty.form.1;simp only[Pt.opn,Bool.or_eq_false_iff,decide_eq_false_iff_not] at hop;omega
    by_cases h4:p.f=4
    ·rcases zA2 ha h.tys with⟨_,hno⟩|⟨hks,ht0,ht5,hh⟩
     ·exact absurd h4 (hno r (by simp) p hp)
     ·have hC:=zT6 3 b (r::l) cs k t ha h.tys (by omega) h.len;rw[hks] at hC;refine z0F to b b1 b2 b3 n r l ns k p v (qA t) hp hv hi0 h4 (by omega) (by omega) h.len (by omega) hC (zDT t) (fun q hq=>?_) hcol hks (fun q hq=>?_)
      ·obtain⟨fs,hfs,hfl⟩:=zC5 hq;have:fs.length<=2:=(wQ hfs).1;omega
      ·obtain⟨fs,hfs,hfl⟩:=zC5 hq;have hT:=h.conA (y:=v) ha hfs ⟨r,by simp,p,hp,h4⟩;rw[hfl] at hT;exact ih _ _ _ hT (by rw[zF3 _ _ _ (by omega),xU];simp;omega) (hsz _ (fun s hm=>zYD hm))
    ·have h3:p.f=3:=by omega
     obtain⟨ht,_,_⟩:=zNB hty h3;subst ht;have hil:(intsOf k (r::l)).length<10000:=by have:=zDS k (r::l) [];have:=h.len;unfold intsOf;simp at *;omega
     exact zXZ to b b1 b2 b3 n r l ns k p v _ hp hv hi0 h4 (by omega) (by omega) h.len (by omega) (zT9 3 b (r::l) k hcol h.len) hil rfl hcol (fun x _=>less _ (.int x)) (less _ (.none 0))
   ·exact zU7 to b b1 b2 b3 n r l ns ho (by omega) (by omega) (by omega)
theorem zVV {A O B N:List AV} (h:O.length=N.length):setAt (A++(O++B)) A.length N=A++(N++B):=by
 unfold setAt;rw[List.take_left,<-List.drop_drop,List.drop_left,<-h,List.drop_left]
def zH4 (b:Nat->Int) (rows:List Rw) (k:Nat):List AV:=yL 3 b (rows.take k)++yL 0 (fun _=>0) (rows.drop k)
theorem z0H (b:Nat->Int) (rows:List Rw) (k:Nat) (h:k<rows.length) (zs:List AV) :
  setAt ((zH4 b rows k).flatMap AV.cells++zs) (0+k*12+2) (eCi (b rows[k].body)).cells=(zH4 b rows (k+1)).flatMap AV.cells++zs:=by
 have e1:rows.drop k=rows[k]::rows.drop (k+1):=List.drop_eq_getElem_cons h;have e2:=List.take_succ_eq_append_getElem h;have hA:((yL 3 b (rows.take k)).flatMap AV.cells++[AV.sl (zM rows[k].ps),.sl (eLs rows[k].lost)]).length=0+k*12+2:=by
  rw[List.length_append,yO (zIP _ _ _),jQ,List.length_take];simp;omega
 rw[<-hA];have e3:(zH4 b rows k).flatMap AV.cells++zs=((yL 3 b (rows.take k)).flatMap AV.cells++[AV.sl (zM rows[k].ps),.sl (eLs rows[k].lost)])++((eCi 0).cells.set 0 (.lit (.int .i64 0))++((yL 0 (fun _=>0) (rows.drop (k+1))).flatMap AV.cells++zs)):=by
  unfold zH4;rw[e1];simp only[yL,List.map_cons,List.flatMap_append,List.flatMap_cons,List.append_assoc]
  rfl
 rw[e3];refine Eq.trans (zVV (N:=(eCi (b rows[k].body)).cells) rfl) ?_;unfold zH4;rw[e2];simp only[yL,List.map_cons,List.map_append,List.map_nil,List.flatMap_append,List.flatMap_cons,List.flatMap_nil,List.append_assoc,List.append_nil]
 rfl
theorem zOR (to t0:Tp) (s:ByteArray) (b:Nat->Int) (bs:List Int):zB Tryz.prog jX [cAV,.lit (.string s),eTy t0,.sl (zM []),.sl (zGA bs),eTy to] (eCr to (made b 300 (zI 0 []) [s])):=by
 have hR:=rows_ok [] (by simp);have hf:∀b1 b2 b3,qV to b b1 b2 b3 300 [] [s]:=fun b1 b2 b3=>zML to b b1 b2 b3 299 [s];refine zA ttok mixed Tryz.func13 rfl (by rfl) (Nat.le_of_ble_eq_true rfl) (by kernel_rfl) ?_;refine .inl ⟨_,hR,?_⟩;refine⟨Unit,fun _=>{vs:=[(1,.v (.lit (.string s))),(6,.box 0 cAV),(11,.box 0 (eTy to)),(12,.box 0 zC),(13,.v (.sl [])),(19,sv 0),(20,sv 0)]},fun _=>0,(),⟨⟨rfl,rfl,rfl,rfl,rfl,rfl,rfl,trivial⟩,trivial,rfl⟩,?_⟩;rintro⟨⟩;refine⟨fun h=>(by cases h),fun _=>?_⟩;refine .inr ⟨rfl,fun b1=>⟨rfl,fun b2=>⟨rfl,fun b3=>?_⟩⟩⟩;have hM:=hf b1 b2 b3;refine⟨rfl,2,_,rfl,Nat.le_refl 1,?_⟩;refine⟨2,_,_,rfl,rfl,?_⟩;refine .inr (.inr (.inl ⟨[0,1,2],hpM to b1 b2 b3,_,rfl,by decide,hM,?_⟩));exact rfl
theorem zMT (to t0:Tp) (s:ByteArray) (hs:s.size<=1) (t:Nat) (l:List Pt) (h:PatsOk t l) (b:Nat->Int) (bs:List Int) (hne:l≠[]) (hbs:bs.length=l.length) (hb:∀k x,bs[k]? = some x->b k=x) :
  zB Tryz.prog jX [cAV,.lit (.string s),eTy t0,.sl (zM l),.sl (zGA bs),eTy to] (eCr to (made b 300 (zI 0 l) [s])):=by
 have hl:=h.2.1;have hR:=zXA l (by omega);refine zI4 ttok mixed Tryz.func13 rfl (by rfl) (Nat.le_of_ble_eq_true rfl) (by kernel_rfl) ?_;refine Wsem0.seq ttok mixed ?_;refine Wsem0.seq ttok mixed ?_;refine .inr (.inr (.inr (.inr (.inr (.inl ⟨[],[],[],_,rfl,List.nodup_nil,rfl,hR,?_⟩)))));intro r w hout hp;rcases hp with⟨he,_⟩|⟨bb,cap,zs,rfl,rfl,rfl,hcap,hz⟩
 ·exfalso;apply hne;cases l with
  | nil=>rfl
  | cons p l=>simp[yL,zI] at he
 have hrl:=qX l 0;have hrows:(zI 0 l).length<10000:=by omega
 have hbody:∀k (hk:k<(zI 0 l).length),bs[k]? = some (b (zI 0 l)[k].body):=fun k hk=>by
  have h1:=zAI l 0 k;rw[List.getElem?_eq_getElem hk,List.getElem?_eq_getElem (by omega)] at h1;injection h1 with h1
  rw[h1,Nat.zero_add];have:=List.getElem?_eq_getElem (l:=bs) (i:=k) (by omega);rw[this,hb k _ this]
 have hmd:=h.all;rw[jQ] at hcap hz⊢;have hmix0:yL 0 (fun _=>0) (zI 0 l)=zH4 b (zI 0 l) 0:=by simp[zH4,yL]
 rw[hmix0];generalize zI 0 l=rows at *;refine Wsem0.seq ttok mixed ?_;refine⟨{k:Nat // k<=rows.length},fun k=>{vs:=[(1,.v (.lit (.string s))),(4,.v (.sl (zGA bs))),(6,.box 0 cAV),(11,.box 0 (eTy to)),(12,.box 0 zC),(13,.v (.lit (.slice (some ⟨bb,0,none⟩) rows.length cap))),(19,sv (rows.length:Nat)),(20,sv (k.1:Nat))],hp:=[(bb,HO.cells ((zH4 b rows k.1).flatMap AV.cells++zs))]},
  fun k=>rows.length-k.1,⟨0,Nat.zero_le _⟩,⟨⟨rfl,rfl,rfl,rfl,rfl,rfl,rfl,rfl,trivial⟩,trivial,rfl⟩,?_⟩
 rintro⟨k,hk⟩;refine⟨fun h'=>?_,fun h'=>?_⟩
 ·have h':k<rows.length:=by have h':=of_decide_eq_true h';simp only at h';omega
  have hg:(zGA bs)[k]? = some (eCi (b rows[k].body)):=by simp[zGA,hbody k h']
  refine⟨_,by omega,hg,rfl,?_⟩;refine⟨by omega,by show (k:Int)<_;omega,?_⟩;have hmx:((zH4 b rows k).flatMap AV.cells).length=rows.length*12:=by
   unfold zH4;rw[yO (esz:=12) (zE3 (zIP _ _ _) (zIP _ _ _))];rw[List.length_append,jQ,jQ,List.length_take,List.length_drop];congr 1;omega
  refine⟨rfl,0,_,rfl,by rw[List.length_append,hmx];show 0+k*12+2+10<=_;omega,?_⟩;refine⟨⟨k+1,h'⟩,by simp;omega,⟨rfl,rfl,rfl,rfl,rfl,rfl,rfl,svc (wrap_succ (k:=k) (by omega)),trivial⟩,trivial,?_⟩;have hset:=z0H b rows k h' zs;exact congrArg (fun x=>[(bb,HO.cells x)]) hset
 ·have h':k=rows.length:=by have h':=of_decide_eq_false h';simp only at h';omega
  subst h';have hmE:zH4 b rows rows.length=yL 3 b rows:=by simp[zH4,yL]
  refine Wsem0.freeze 13 12 (b:=bb) (cap:=cap) (L:=yL 3 b rows) (zs:=zs) rfl (by rw[jQ];rfl) (by rw[jQ];exact hcap) (fun x hx=>zIP 3 b rows x hx) (by rw[hmE]) ?_;refine Wsem0.of ttok mixed ?_;refine .inr ⟨rfl,fun b1=>⟨rfl,fun b2=>⟨rfl,fun b3=>?_⟩⟩⟩;have hM:=z1V to b b1 b2 b3 300 rows [t] [s] hmd rfl (fun x hx=>by simp at hx;subst hx;omega);refine⟨rfl,2,_,rfl,Nat.le_refl 1,?_⟩;refine⟨2,_,_,rfl,rfl,?_⟩;refine .inr (.inr (.inl ⟨[0,1,2],hpM to b1 b2 b3,_,rfl,by decide,hM,?_⟩));exact rfl
theorem zQV (to t0:Tp) (s:ByteArray) (hs:s.size<=1) {t:Nat} {l:List Pt} (h:PatsOk t l) (b:Nat->Int) (bs:List Int) (hbs:bs.length=l.length) (hb:∀k x,bs[k]? = some x->b k=x) :
  zB Tryz.prog jX [cAV,.lit (.string s),eTy t0,.sl (zM l),.sl (zGA bs),eTy to] (eCr to (made b 300 (zI 0 l) [s])):=by
 by_cases hne:l=[]
 ·subst hne;exact zOR to t0 s b bs
 ·exact zMT to t0 s hs t l h b bs hne hbs hb
end Go.Proofs.YtebmimnglcdogaaGreatDoor
