/- The least core of a type, by its form. No condition but that the numbers are such. -/
import Derived.Test.YtdmbahepaglcbaaGreatDoorU
set_option linter.unusedSimpArgs false
set_option linter.unusedVariables false
namespace Go.Proofs.YtdmbahepaglcbaaGreatDoor
open Go Fp
set_option maxRecDepth 10000
set_option maxHeartbeats 8000000
set_option linter.unusedVariables false
abbrev z2N (b:Nat) (l:List Int) (n:Int) (v:V9) (t:Tp) (c:Cr) (l':List Int) (n':Int):Prop:=CallsG Tryz.prog (fnv 54) (mkH b l n) [pt b 0,eV v,eTy t] [] fun r o h=>r=eC c/\o=0/\h=mkH b l' n'
abbrev sx:ByteArray:=⟨#[120]⟩
def cG:Nat->Nat
 | 0=>1
 | k+1=>3*cG k+1
structure SOk (v:V9):Prop where
 tL:∀p∈v.L,zEU v.vars p.2/\p.2.sz<=300
 vn:∀x∈v.vars,Wrd x/\x.size<=10
 ll:v.L.length<=v.deep
 vl:v.vars.length<=v.deep+1
 dd:v.deep<=8
def Smd (k:Nat) (v:V9) (l:List Int) (n:Int) (t:Tp):Prop := ∃c l' n',Mkd v t c/\c.sz<=540+1100*(bud n-bud n')/\Nums l'/\n'<n/\n-(cG k:Nat)<=n'/\∀b,z2N b l n v t c l' n'
def z1A (k:Nat):Prop := ∀(v:V9) (l:List Int) (n:Int) (t:Tp),7<=v.deep+k->SOk v->zEU v.vars t->Frm t->t.sz<=60+15*v.deep->Nums l->(-100000+(cG k:Nat)<n/\n<100000)->Smd k v l n t
section
variable {k:Nat} (ih:z1A k) {v:V9} (hv:SOk v) (hd:v.deep<=6) (hk:7<=v.deep+(k+1)) {l:List Int} (hl:Nums l) {n:Int} (hn : -100000+3*(cG k:Nat)<n/\n<100000) {t:Tp} (ht:zEU v.vars t) (hf:Frm t) (hs:t.sz<=60+15*v.deep)
include ih hv hd hk hn
end
section
variable {k:Nat} (ih:z1A k) {v:V9} (hv:SOk v) (hd:v.deep<=6) (hk:7<=v.deep+(k+1)) {l:List Int} (hl:Nums l) {n:Int} (hn : -100000+3*(cG k:Nat)<n/\n<100000) {t:Tp} (ht:zEU v.vars t) (hf:Frm t) (hs:t.sz<=60+15*v.deep)
include ih hv hd hk hl hn ht hf hs
end
section
variable {k:Nat} (ih:z1A k) {v:V9} (hv:SOk v) (hd:v.deep<=6) (hk:7<=v.deep+(k+1)) {l:List Int} (hl:Nums l) {n:Int} (hn : -100000+3*(cG k:Nat)<n/\n<100000) {t:Tp} (ht:zEU v.vars t) (hf:Frm t) (hs:t.sz<=60+15*v.deep)
include ih hv hd hk hl hn ht hf hs
end
def v0:V9:=⟨[],[],0⟩
def v1:V9:=⟨[],[sa],0⟩
abbrev liA:Cr:=z1U sx (.var sa) (vr sx)
abbrev liB:Cr:=zIR sa liA
abbrev wL:Wd := .of [] []
abbrev o0:ByteArray:=zG7 0
theorem zW3:Gd liA:=z1Q (.inl rfl) (zDB (by decide)) (zVT _)
theorem z1M:Gd liB:=z0Z zW3
theorem zIH {c:Cr} (h:Gd c) (hs:c.sz<90000):zKM c:=zRQ h hs
theorem zI7 (env:List Nm2) (ps:Env') (d:Nat) (he:env.length<=100) (hp:ps.length<=100/\(∀p∈ps,∃x,p.2 = .var x)) (hd:d<100):WOk 50000 ⟨[],env,ps,d⟩ :=
 ⟨by show 0<=1000;omega,fun f hf=>(by cases hf),by show env.length<=_;omega,by show List.length ps<=_;omega,hp.2,hd⟩
theorem zGP {d:Nat} (h:d<100):(zG7 d).size<=8:=by
 have:=wO 2 d (by omega) (by decide);unfold zG7;rw[ByteArray.size_append];show 1+_<=8;omega
theorem gs_o0:Gs (.var o0):=⟨by decide,by unfold o0 zG7;exact zSM (by decide) (zGA 0),Nat.le_trans (zGP (by decide)) (by decide)⟩
theorem zL1:TyW zG7 50000 wL liB (.all o0 (fnT (.var o0) (.var o0))):=by
 have w1:WOk 50000 (⟨[],[],[],0⟩:Wd):=zI7 [] [] 0 (by decide) ⟨by decide,fun p hp=>by cases hp⟩ (by decide);have w2:WOk 50000 (⟨[],[],[(sa,.var o0)],1⟩:Wd):=zI7 _ _ _ (by decide) ⟨by decide,fun p hp=>by rw[List.mem_singleton.1 hp];exact⟨_,rfl⟩⟩ (by decide);have w3:WOk 50000 (⟨[],[(sx,.var o0)],[(sa,.var o0)],1⟩:Wd):=zI7 _ _ _ (by simp) ⟨by decide,fun p hp=>by rw[List.mem_singleton.1 hp];exact⟨_,rfl⟩⟩ (by decide);exact .tlam w1 (.lam w2 (by decide) (.var w3 rfl gs_o0) (zSQ gs_o0 gs_o0 (by decide))) ⟨by decide,⟨gs_o0.2.1,(zSQ gs_o0 gs_o0 (by decide)).2.1⟩,(zSQ gs_o0 gs_o0 (by decide)).2.2⟩
theorem zV3:TyW zG7 50000 wL (zH1 (.con xI) liB) (fnT (.con xI) (.con xI)):=by
 have w1:WOk 50000 (⟨[],[],[],0⟩:Wd):=zI7 [] [] 0 (by decide) ⟨by decide,fun p hp=>by cases hp⟩ (by decide);have e:sub (fnT (.var o0) (.var o0)) [(o0,({fs:=[],env:=[],ps:=[],deep:=0}:Wd).mean (.con xI))]=fnT (.con xI) (.con xI):=by
  show fnT ((if o0=o0 then _ else _:Option Tp).getD _) ((if o0=o0 then _ else _:Option Tp).getD _)=_;rw[if_pos rfl];rfl
 have h:=TyW.tapp (n:=0) (s := .empty) (t := .con xI) w1 (by decide) (by decide) (by decide) zL1 (by rw[e];exact zSQ gs_int gs_int (by decide));rw[e] at h;exact h
theorem zU2:OfN wL (zPJ liB (zPN 3)) :=
 zR9 (j:=3) (f:=119) rfl rfl rfl (zUT rfl (zLW (by decide) zL1) (zLW (B:=50000) (by decide) (.int (zI7 [] [] 0 (by decide) ⟨by decide,fun p hp=>by cases hp⟩ (by decide)))) (by decide) (fun h=>Bool.noConfusion (show false=true from h.1)))
theorem zP3:zC Tryz.prog zDM [eTy (fnT (.con xI) (.con xI))] (str ⟨#[73,110,116,32,45,62,32,73,110,116]⟩):=zT7 (dec:=fun _ => .empty) (fun _=>by decide) _ (by decide) (by simp[Tp.fine];decide) (fun n hn=>by simp[mts] at hn)
theorem zTV:zC Tryz.prog yL [eTy (.all o0 (fnT (.var o0) (.var o0))),eTy (.all sb9 (fnT (.var sb9) (.var sb9)))] (.sb true):=by
 have cw:CoW arrow:=⟨by decide,_,_,rfl,by decide⟩
 have wo:Wrd o0:=by unfold o0 zG7;exact zSM (by decide) (zGA 0)
 have wb:Wrd sb9:=by decide
 have h:=zK4 (a := .all o0 (fnT (.var o0) (.var o0))) (b := .all sb9 (fnT (.var sb9) (.var sb9))) (K:=10) ⟨wo,⟨cw,wo⟩,wo⟩ ⟨wb,⟨cw,wb⟩,wb⟩ ⟨⟨(by decide:arrow.size<=10),Nat.le_trans (zGP (by decide)) (by decide)⟩,Nat.le_trans (zGP (by decide)) (by decide)⟩ (by simp[Shn];decide) (by decide) (by decide) (by decide);have e:smb (.all o0 (fnT (.var o0) (.var o0))) (.all sb9 (fnT (.var sb9) (.var sb9))) [] []=true:=zOA (by simp[db,memb,ixN]);rw[e] at h;exact h
theorem zQW:zC Tryz.prog 18 [] (.sb true):=by
 have hB:=z1M;have h1:=zFP (fs:=[]) (env:=[]) (zLW (by decide) zL1) (K:=1000) (qI (by decide) (by decide) (fun p hp=>by cases hp) (by decide));have h2:=zFP (fs:=[]) (env:=[]) (zLW (by decide) zV3) (K:=1000) (qI (by decide) (by decide) (fun p hp=>by cases hp) (by decide));have h3:=zKX (fs:=[]) (env:=[]) zU2;refine zB ttok mixed Tryz.func18 rfl (by rfl) (Nat.le_of_ble_eq_true rfl) (by kernel_rfl) ?_;refine .inl ⟨_,zIZ sa,?_⟩;refine .inl ⟨_,zES sx,?_⟩;refine .inl ⟨_,zVL (s:=sx) (t := .var sa) (c:=vr sx) (zDB (by decide)) (zIH (zVT _) (by decide)),?_⟩;refine .inl ⟨_,zUR (l:=[sa]) (zIH zW3 (by decide)) (by decide),?_⟩;refine .inl ⟨_,h1,?_⟩;refine .inl ⟨_,zBZ xI,?_⟩;refine .inl ⟨_,zUL (l:=[.con xI]) (zIH hB (by decide)) (fun t ht=>by rw[List.mem_singleton.1 ht];exact zDB (by decide)) (by decide),?_⟩;refine .inl ⟨_,h2,?_⟩;refine⟨by kernel_rfl,?_⟩;refine .inl ⟨_,zWP 3,?_⟩;refine .inl ⟨_,zWC (l:=[zPN 3]) (zIH hB (by decide)) (fun c hc=>by rw[List.mem_singleton.1 hc];exact zIH (zYL (.inr (.inl rfl)) zPC) (by decide)) (by decide),?_⟩;refine .inl ⟨_,h3,?_⟩;refine⟨by kernel_rfl,?_⟩;refine⟨fun _=>?_,fun h=>Bool.noConfusion (show true=false from h)⟩;refine .inl ⟨_,zIZ sb9,?_⟩;refine .inl ⟨_,zIZ sb9,?_⟩;refine .inl ⟨_,zSU (.var sb9) [.var sb9] (by decide),?_⟩;refine .inl ⟨_,zLU sb9 (fnT (.var sb9) (.var sb9)),?_⟩
 refine .inl ⟨_,zTV,?_⟩;refine⟨fun _=>?_,fun h=>Bool.noConfusion (show true=false from h)⟩;refine⟨fun _=>?_,fun h=>Bool.noConfusion (show true=false from h)⟩;refine .inl ⟨_,zP3,?_⟩;refine⟨fun _=>?_,fun h=>Bool.noConfusion (show true=false from h)⟩;refine⟨by kernel_rfl,?_⟩;exact rfl
theorem z0A (x:Int):InR (IntKind.i64.wrap x):=by
 rw[IntKind.wrap_i64];unfold InR;omega
theorem zUW:CoW arrow:=⟨by decide,_,_,rfl,by decide⟩
end Go.Proofs.YtdmbahepaglcbaaGreatDoor
