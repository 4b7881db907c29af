/- Type, Binds: core's type, or that there is none. No condition but on what is within. -/
import Derived.Test.YtebmimnglcdogaaGreatDoorAA
import Derived.Test.YtebmimnglcdogaaGreatDoorW
import Derived.WalkKit
import Derived.WalkSmall
import Derived.Tactics
import Derived.Tactics2
set_option linter.unusedSimpArgs false
set_option linter.unusedVariables false
namespace Go.Proofs.YtebmimnglcdogaaGreatDoor.Ck
open Go Fp
set_option maxRecDepth 10000
set_option maxHeartbeats 8000000
set_option linter.unusedVariables false
abbrev pB (b:Nat):Value := .pointer (some ⟨b,0,none⟩)
def Wd.of (fs:List Fd) (env:List Nm2):Wd:=⟨fs,env,[],0⟩
abbrev hT (fs:List Fd) (env:List Nm2) (c:Cr) (b3 b4 b5 b6:Nat) (l:List AV):List (Nat×HO):=[(b3,HO.cells [.sl (eFds fs)]),(b4,HO.cells [.sl (zC1 env)]),(b5,HO.cells (eC c).cells),(b6,HO.cells l)]
abbrev zT:List AV:=[.lit (.int .i64 0),.lit (.int .i64 0),.lit (.string .empty),.nil]
theorem zSK {fs:List Fd} {env:List Nm2} {c:Cr} {t:Tp} (h:OfS (.of fs env) c t) (b3 b4 b5 b6:Nat):CallsG Tryz.prog (.func (.func 45) #[] #[pB b3,pB b4,pB b5,pB b6]) (hT fs env c b3 b4 b5 b6 zT) [] [] fun r o h=>r = .tup []/\o=0/\h=hT fs env c b3 b4 b5 b6 (eTy t).cells:=by
 refine yS (first:=[]) (cap:=[pB b3,pB b4,pB b5,pB b6]) ttok mixed Tryz.func45 rfl (by rfl) rfl (Nat.le_of_ble_eq_true rfl) (by kernel_rfl) ?_;refine⟨0,_,_,rfl,rfl,?_⟩;refine⟨1,_,_,rfl,rfl,?_⟩;refine⟨2,_,rfl,Nat.le_of_ble_eq_true rfl,?_⟩;refine .inl ⟨_,h,?_⟩;refine⟨rfl,3,_,rfl,Nat.le_of_ble_eq_true rfl,?_⟩;exact⟨rfl,rfl,rfl⟩
theorem zSW {P:Program} {n:Nat} {cap:Array Value} {hin:List (Nat×HO)} {post:AV->Nat->List (Nat×HO)->Prop} (h:CallsG P (.func (.func n) #[] cap) hin [] [] post) (F:Nat->Option Nat) (w:World) (hf:Fresh F w) (hh:HeapIn F w hin):Calls P n cap w (yJ F (keys hin) [] w post):=by
 obtain⟨f,first,cap',he,hen,hcalls⟩:=h;injection he with e1 e2 e3
 injection e1 with e1
 subst e1;subst e2;subst e3;have:=hcalls F w [] hf hh ⟨rfl,fun i v a h=>by simp at h,fun i v sz h=>by simp at h,List.nodup_nil⟩ (by simp[zS]);simpa[zS] using this
theorem z6C {α:Type} {a:Array α} (h:a.size=4):∃x0 x1 x2 x3,a = #[x0,x1,x2,x3]:=by
 obtain⟨l⟩:=a
 match l,h with
 | [x0,x1,x2,x3],_=>exact⟨x0,x1,x2,x3,rfl⟩
def z6P (t:Tp) (n:Int) (c:CE):Prop := ∃b l,yA c.vs 6 = .v (.lit (pB b))/\(b,HO.cells l)∈c.hp/\l.map wk=(eTy t).cells/\yA c.vs 7 = .v (.lit (.int .i64 n))
theorem zWM {args:List AV} {t:Tp} {n:Int} (hlen:args.length<=Tryz.f15.ntmps) {c:Code} (hb:Tryz.f15.body=some c) (hk:zK Tryz.f15.ntmps c=true) (hw:Wsem Tryz.prog c (xN args [] []) (fun _=>False) (fun _ _=>False) (z6P t n)):zB Tryz.prog 15 args (.tup [eTy t,.lit (.int .i64 n)]):=by
 refine⟨15,#[],#[],rfl,⟨_,Tryz.func15,by rw[hb];rfl,rfl⟩,fun F w vs hfr hh ha hy=>?_⟩;have hyk:zS vs []=[]:=by cases vs<;>rfl
 rw[show (#[]:Array Value)++vs.toArray ++ #[]=vs.toArray by simp];obtain⟨g,hR⟩:=wV hfr hh ha hy (n:=Tryz.f15.ntmps) (by rw[ha.len];exact hlen);refine calls_of_wp Tryz.func15 hb (Go.wp_mono (hw _ trivial hk g _ _ (hR.weaken (xH args [] []) (wF args [] []) (fun _=>rfl) rfl)) fun ex a w' hp=>?_);cases ex with
 | normal=>obtain⟨e,g',h1,h2⟩:=hp;exact h1.elim
 | exit i=>obtain⟨e,g',h1,h2⟩:=hp;exact h1.elim
 | goto l=>exact hp.elim
 | panic ch=>exact hp.elim
 | outgrown=>exact hp.elim
 | ret =>
  obtain⟨c',g',⟨b,l,q1,q2,q4,q3⟩,hR'⟩:=hp;have s6:=hR'.slots 6;have s7:=hR'.slots 7;rw[show (den c').vals 6=_ from q1] at s6;rw[show (den c').vals 7=_ from q3] at s7;have e6:=s6.lit_eq.1;have e7:=s7.lit_eq.1;rw[Array.getD_eq_getD_getElem?] at e6 e7;obtain⟨cs,E,h1,h2⟩:=hR'.heap.ok _ q2;simp only at h1;have h2:=h2.wkM;rw[q4] at h2;have l4:cs.size=4:=by simpa[eTy,AV.cells] using h2.1
  obtain⟨x0,x1,x2,x3,rfl⟩:=z6C l4;have d0:=(cellAt h1 0 (by simp)).1;have d1:=(cellAt h1 1 (by simp)).1;have d2:=(cellAt h1 2 (by simp)).1;have d3:=(cellAt h1 3 (by simp)).1;simp only[List.getElem_toArray,List.getElem_cons_zero,List.getElem_cons_succ] at d0 d1 d2 d3;refine⟨hR'.defers,.tuple #[.agg #[x0,x1,x2,x3],.int .i64 n],?_,_,_,0,[],g'.F,rfl,⟨rfl,rfl,rfl⟩,?_,fun sz h=>by omega,hR'.kept,hR'.fext,hR'.fresh,⟨by simp[keys],fun b hb=>by simp[keys] at hb,fun x hx=>by simp at hx⟩,fun b hb=>by simp[keys] at hb⟩
  ·simp[results,Tryz.f15,go_sem,e6,e7,d0,d1,d2,d3]
  ·refine .tup _ _ rfl fun j u c hu hc=>?_
   match j,hu,hc with
   | 0,hu,hc =>
    cases hu;cases hc
    refine .agg _ _ rfl (fun c hc=>?_) fun j u c hu hc=>(h2.2 j u c (by simpa using hu) hc).1;simp only[List.mem_cons,List.not_mem_nil,or_false] at hc;rcases hc with rfl|rfl|rfl|rfl<;>rfl
   | 1,hu,hc=>cases hu;cases hc;exact .lit _ rfl
theorem type_some {fs:List Fd} {env:List Nm2} {c:Cr} {t:Tp} (h:OfS (.of fs env) c t) {K:Nat} (hf:FitX K t []):zB Tryz.prog 15 [.sl (eFds fs),.sl (zC1 env),eC c] (.tup [eTy t,.lit (.int .i64 0)]):=by
 have hs:=substX_ok t.sz t (Nat.le_refl _) K [] hf;unfold wH at hs;rw[zT2] at hs;refine zWM (Nat.le_of_ble_eq_true rfl) rfl (by kernel_rfl) ?_;refine Wsem.of ttok mixed ?_;refine .inr ⟨rfl,fun b3=>⟨rfl,fun b4=>⟨rfl,fun b5=>⟨rfl,fun b6=>?_⟩⟩⟩⟩;have hd:=zRD (n:=45) ⟨_,Tryz.func45,rfl,rfl⟩ (cap := #[pB b3,pB b4,pB b5,pB b6]) (hin:=hT fs env c b3 b4 b5 b6 zT) (hout:=hT fs env c b3 b4 b5 b6 (eTy t).cells) (by simp[CellsL]) (by simp[CellsL]) rfl (zSW (zSK h b3 b4 b5 b6)) (fun b hb=>by simpa[keys] using hb);refine .inr (.inr (.inr (.inl ⟨[0,1,2,3],hT fs env c b3 b4 b5 b6 zT,hT fs env c b3 b4 b5 b6 (eTy t).cells,_,rfl,by decide,rfl,hd,?_⟩)));refine⟨fun h=>absurd h (by decide),fun _=>?_⟩;refine⟨3,_,rfl,Nat.le_of_ble_eq_true rfl,?_⟩;refine .inl ⟨_,hs,?_⟩;refine⟨rfl,3,_,rfl,Nat.le_of_ble_eq_true rfl,?_⟩;exact⟨b6,_,rfl,List.mem_of_getElem? (i:=3) rfl,rfl,rfl⟩
end Go.Proofs.YtebmimnglcdogaaGreatDoor.Ck
