/- The least core of a type: names. No condition but that the numbers are such. -/
import Derived.Test.YtdmbahepaglcbaaGreatDoorAB
set_option linter.unusedSimpArgs false
set_option linter.unusedVariables false
namespace Go.Proofs.YtdmbahepaglcbaaGreatDoor
open Go Fp
set_option maxRecDepth 10000
set_option maxHeartbeats 8000000
set_option linter.unusedVariables false
abbrev zeJ (b:Nat) (l:List Int) (n:Int) (v:V9) (t:Tp) (c:Cr) (l':List Int) (n':Int):Prop:=CallsG Tryz.prog (fnv 54) (mkH b l n) [pt b 0,eV v,eTy t] [] fun r o h=>r=eC c/\o=0/\h=mkH b l' n'
abbrev sx:ByteArray:=⟨#[120]⟩
def cG:Nat->Nat
 | 0=>1
 | k+1=>3*cG k+1
structure SOk (v:V9):Prop where
 tL:∀p∈v.L,zSW v.vars p.2/\p.2.sz<=300
 vn:∀x∈v.vars,Wrd x/\x.size<=10
 ll:v.L.length<=v.deep
 vl:v.vars.length<=v.deep+1
 dd:v.deep<=8
def Smd (k:Nat) (v:V9) (l:List Int) (n:Int) (t:Tp):Prop := ∃c l' n',Mkd v t c/\c.sz<=540+1100*(bud n-bud n')/\Nums l'/\n'<n/\n-(cG k:Nat)<=n'/\∀b,zeJ b l n v t c l' n'
def zdD (k:Nat):Prop := ∀(v:V9) (l:List Int) (n:Int) (t:Tp),7<=v.deep+k->SOk v->zSW v.vars t->Frm t->t.sz<=60+15*v.deep->Nums l->(-100000+(cG k:Nat)<n/\n<100000)->Smd k v l n t
section
variable {k:Nat} (ih:zdD k) {v:V9} (hv:SOk v) (hd:v.deep<=6) (hk:7<=v.deep+(k+1)) {l:List Int} (hl:Nums l) {n:Int} (hn : -100000+3*(cG k:Nat)<n/\n<100000) {t:Tp} (ht:zSW v.vars t) (hf:Frm t) (hs:t.sz<=60+15*v.deep)
include ih hv hd hk hn
end
section
variable {k:Nat} (ih:zdD k) {v:V9} (hv:SOk v) (hd:v.deep<=6) (hk:7<=v.deep+(k+1)) {l:List Int} (hl:Nums l) {n:Int} (hn : -100000+3*(cG k:Nat)<n/\n<100000) {t:Tp} (ht:zSW v.vars t) (hf:Frm t) (hs:t.sz<=60+15*v.deep)
include ih hv hd hk hl hn ht hf hs
end
section
variable {k:Nat} (ih:zdD k) {v:V9} (hv:SOk v) (hd:v.deep<=6) (hk:7<=v.deep+(k+1)) {l:List Int} (hl:Nums l) {n:Int} (hn : -100000+3*(cG k:Nat)<n/\n<100000) {t:Tp} (ht:zSW v.vars t) (hf:Frm t) (hs:t.sz<=60+15*v.deep)
include ih hv hd hk hl hn ht hf hs
end
theorem zOD:zF Tryz.prog 11 [] (.sl (zEW fields19)):=by
 refine zG ttok mixed Tryz.func11 rfl (by rfl) (Nat.le_of_ble_eq_true rfl) (by kernel_rfl) ?_;refine .inl ⟨_,zET sL,?_⟩;refine⟨by kernel_rfl,?_⟩;refine .inl ⟨_,zET sP,?_⟩;refine⟨by kernel_rfl,?_⟩;refine .inl ⟨_,jB (.var sb9) (.var sb9),?_⟩;refine .inl ⟨_,zET sK,?_⟩;refine⟨by kernel_rfl,?_⟩;refine .inl ⟨_,zEX sa (lsT (.var sa)),?_⟩;refine .inl ⟨_,jB (lsT (.var sa)) (lsT (.var sa)),?_⟩;refine .inl ⟨_,jB (.var sa) (fnT (lsT (.var sa)) (lsT (.var sa))),?_⟩;refine .inl ⟨_,zEX sa (fnT (.var sa) (fnT (lsT (.var sa)) (lsT (.var sa)))),?_⟩;refine .inl ⟨_,jB (.var sb9) (prT (.var sa) (.var sb9)),?_⟩;refine .inl ⟨_,jB (.var sa) (fnT (.var sb9) (prT (.var sa) (.var sb9))),?_⟩;refine .inl ⟨_,zEX sb9 (fnT (.var sa) (fnT (.var sb9) (prT (.var sa) (.var sb9)))),?_⟩;refine .inl ⟨_,zEX sa (.all sb9 (fnT (.var sa) (fnT (.var sb9) (prT (.var sa) (.var sb9))))),?_⟩;refine .inl ⟨_,zET zDG,?_⟩;refine .inl ⟨_,zET zDG,?_⟩;refine .inl ⟨_,jB (.all sb9 (fnT (.var sb9) (.var sb9))) (.app (.con sK) (.var sa)),?_⟩;refine .inl ⟨_,jB (.var sa) (fnT (.all sb9 (fnT (.var sb9) (.var sb9))) (.app (.con sK) (.var sa))),?_⟩;refine .inl ⟨_,zEX sa (fnT (.var sa) (fnT (.all sb9 (fnT (.var sb9) (.var sb9))) (.app (.con sK) (.var sa)))),?_⟩;refine⟨by kernel_rfl,?_⟩;exact rfl
def v0:V9:=⟨[],[],0⟩
def v1:V9:=⟨[],[sa],0⟩
abbrev liA:Cr:=zd1 sx (.var sa) (vr sx)
abbrev liB:Cr:=zLD sa liA
abbrev wL:Wd := .of [] []
abbrev o0:ByteArray:=jM 0
theorem z2Y:Gd liA:=zdA (.inl rfl) (zFK (by decide)) (z4Y _)
theorem zdJ:Gd liB:=zcW z2Y
theorem zLH {c:Cr} (h:Gd c) (hs:c.sz<90000):zPB c:=zU5 h hs
theorem zMG (env:List Nm2) (ps:Env') (d:Nat) (he:env.length<=100) (hp:ps.length<=100/\(∀p∈ps,∃x,p.2 = .var x)) (hd:d<100):WOk 50000 ⟨[],env,ps,d⟩ :=
 ⟨by show 0<=1000;omega,fun f hf=>(by cases hf),by show env.length<=_;omega,by show List.length ps<=_;omega,hp.2,hd⟩
theorem zIO {d:Nat} (h:d<100):(jM d).size<=8:=by
 have:=xP 2 d (by omega) (by decide);unfold jM;rw[ByteArray.size_append];show 1+_<=8;omega
theorem gs_o0:Gs (.var o0):=⟨by decide,by unfold o0 jM;exact zYK (by decide) (zJR 0),Nat.le_trans (zIO (by decide)) (by decide)⟩
theorem zQB:TyW jM 50000 wL liB (.all o0 (fnT (.var o0) (.var o0))):=by
 have w1:WOk 50000 (⟨[],[],[],0⟩:Wd):=zMG [] [] 0 (by decide) ⟨by decide,fun p hp=>by cases hp⟩ (by decide);have w2:WOk 50000 (⟨[],[],[(sa,.var o0)],1⟩:Wd):=zMG _ _ _ (by decide) ⟨by decide,fun p hp=>by rw[List.mem_singleton.1 hp];exact⟨_,rfl⟩⟩ (by decide);have w3:WOk 50000 (⟨[],[(sx,.var o0)],[(sa,.var o0)],1⟩:Wd):=zMG _ _ _ (by simp) ⟨by decide,fun p hp=>by rw[List.mem_singleton.1 hp];exact⟨_,rfl⟩⟩ (by decide);exact .tlam w1 (.lam w2 (by decide) (.var w3 rfl gs_o0) (zXM gs_o0 gs_o0 (by decide))) ⟨by decide,⟨gs_o0.2.1,(zXM gs_o0 gs_o0 (by decide)).2.1⟩,(zXM gs_o0 gs_o0 (by decide)).2.2⟩
theorem z8F:TyW jM 50000 wL (zNI (.con xU) liB) (fnT (.con xU) (.con xU)):=by
 have w1:WOk 50000 (⟨[],[],[],0⟩:Wd):=zMG [] [] 0 (by decide) ⟨by decide,fun p hp=>by cases hp⟩ (by decide);have e:sub (fnT (.var o0) (.var o0)) [(o0,({fs:=[],env:=[],ps:=[],deep:=0}:Wd).mean (.con xU))]=fnT (.con xU) (.con xU):=by
  show fnT ((if o0=o0 then _ else _:Option Tp).getD _) ((if o0=o0 then _ else _:Option Tp).getD _)=_;rw[if_pos rfl];rfl
 have h:=TyW.tapp (n:=0) (s := .empty) (t := .con xU) w1 (by decide) (by decide) (by decide) zQB (by rw[e];exact zXM z2L z2L (by decide));rw[e] at h;exact h
theorem z4T:OfN wL (zVY liB (zdG 3)) :=
 wC (j:=3) (f:=119) rfl rfl rfl (zO0 rfl (zP9 (by decide) zQB) (zP9 (B:=50000) (by decide) (.int (zMG [] [] 0 (by decide) ⟨by decide,fun p hp=>by cases hp⟩ (by decide)))) (by decide) (fun h=>Bool.noConfusion (show false=true from h.1)))
theorem zWT:zF Tryz.prog zFY [eTy (fnT (.con xU) (.con xU))] (str ⟨#[73,110,116,32,45,62,32,73,110,116]⟩):=z1G (dec:=fun _ => .empty) (fun _=>by decide) _ (by decide) (by simp[Tp.fine];decide) (fun n hn=>by simp[mts] at hn)
theorem z0Z:zF Tryz.prog qI [eTy (.all o0 (fnT (.var o0) (.var o0))),eTy (.all sb9 (fnT (.var sb9) (.var sb9)))] (.sb true):=by
 have cw:CoW arrow:=⟨by decide,_,_,rfl,by decide⟩
 have wo:Wrd o0:=by unfold o0 jM;exact zYK (by decide) (zJR 0)
 have wb:Wrd sb9:=by decide
 have h:=z1C (a := .all o0 (fnT (.var o0) (.var o0))) (b := .all sb9 (fnT (.var sb9) (.var sb9))) (K:=10) ⟨wo,⟨cw,wo⟩,wo⟩ ⟨wb,⟨cw,wb⟩,wb⟩ ⟨⟨(by decide:arrow.size<=10),Nat.le_trans (zIO (by decide)) (by decide)⟩,Nat.le_trans (zIO (by decide)) (by decide)⟩ (by simp[Shn];decide) (by decide) (by decide) (by decide);have e:smb (.all o0 (fnT (.var o0) (.var o0))) (.all sb9 (fnT (.var sb9) (.var sb9))) [] []=true:=z2K (by simp[db,memb,ixN]);rw[e] at h;exact h
theorem zL5:zF Tryz.prog 18 [] (.sb true):=by
 have hB:=zdJ;have h1:=zJY (fs:=[]) (env:=[]) (zP9 (by decide) zQB) (K:=1000) (zBQ (by decide) (by decide) (fun p hp=>by cases hp) (by decide));have h2:=zJY (fs:=[]) (env:=[]) (zP9 (by decide) z8F) (K:=1000) (zBQ (by decide) (by decide) (fun p hp=>by cases hp) (by decide));have h3:=zOH (fs:=[]) (env:=[]) z4T;refine zG ttok mixed Tryz.func18 rfl (by rfl) (Nat.le_of_ble_eq_true rfl) (by kernel_rfl) ?_;refine .inl ⟨_,zGA sa,?_⟩;refine .inl ⟨_,z5K sx,?_⟩;refine .inl ⟨_,z7L (s:=sx) (t := .var sa) (c:=vr sx) (zFK (by decide)) (zLH (z4Y _) (by decide)),?_⟩;refine .inl ⟨_,zY5 (l:=[sa]) (zLH z2Y (by decide)) (by decide),?_⟩;refine .inl ⟨_,h1,?_⟩;refine .inl ⟨_,zAT xU,?_⟩;refine .inl ⟨_,z1O (l:=[.con xU]) (zLH hB (by decide)) (fun t ht=>by rw[List.mem_singleton.1 ht];exact zFK (by decide)) (by decide),?_⟩;refine .inl ⟨_,h2,?_⟩;refine⟨by kernel_rfl,?_⟩;refine .inl ⟨_,z4B 3,?_⟩;refine .inl ⟨_,z4M (l:=[zdG 3]) (zLH hB (by decide)) (fun c hc=>by rw[List.mem_singleton.1 hc];exact zLH (zaW (.inr (.inl rfl)) zWO) (by decide)) (by decide),?_⟩;refine .inl ⟨_,h3,?_⟩;refine⟨by kernel_rfl,?_⟩;refine⟨fun _=>?_,fun h=>Bool.noConfusion (show true=false from h)⟩;refine .inl ⟨_,zGA sb9,?_⟩;refine .inl ⟨_,zGA sb9,?_⟩;refine .inl ⟨_,zXT (.var sb9) [.var sb9] (by decide),?_⟩;refine .inl ⟨_,zQU sb9 (fnT (.var sb9) (.var sb9)),?_⟩
 refine .inl ⟨_,z0Z,?_⟩;refine⟨fun _=>?_,fun h=>Bool.noConfusion (show true=false from h)⟩;refine⟨fun _=>?_,fun h=>Bool.noConfusion (show true=false from h)⟩;refine .inl ⟨_,zWT,?_⟩;refine⟨fun _=>?_,fun h=>Bool.noConfusion (show true=false from h)⟩;refine⟨by kernel_rfl,?_⟩;exact rfl
end Go.Proofs.YtdmbahepaglcbaaGreatDoor
