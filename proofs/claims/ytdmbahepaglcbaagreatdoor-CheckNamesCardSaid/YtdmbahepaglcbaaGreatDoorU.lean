/- Type, Binds: core's type, or that there is none. No condition but on what is within. -/
import Derived.Test.YtdmbahepaglcbaaGreatDoorT
import Derived.WalkKit
import Derived.WalkSmall
import Derived.Tactics
import Derived.Tactics2
set_option linter.unusedSimpArgs false
set_option linter.unusedVariables false
namespace Go.Proofs.YtdmbahepaglcbaaGreatDoor
open Go Fp
set_option maxRecDepth 10000
set_option maxHeartbeats 8000000
set_option linter.unusedVariables false
abbrev pB (b:Nat):Value := .pointer (some ⟨b,0,none⟩)
def Wd.of (fs:List Fd) (env:List Nm2):Wd:=⟨fs,env,[],0⟩
abbrev hT (fs:List Fd) (env:List Nm2) (c:Cr) (b3 b4 b5 b6:Nat) (l:List AV):List (Nat×HO):=[(b3,HO.cells [.sl (zEW fs)]),(b4,HO.cells [.sl (xW env)]),(b5,HO.cells (eC c).cells),(b6,HO.cells l)]
abbrev zT:List AV:=[.lit (.int .i64 0),.lit (.int .i64 0),.lit (.string .empty),.nil]
theorem zU9 {fs:List Fd} {env:List Nm2} {c:Cr} {t:Tp} (h:OfS (.of fs env) c t) (b3 b4 b5 b6:Nat):CallsG Tryz.prog (.func (.func 41) #[] #[pB b3,pB b4,pB b5,pB b6]) (hT fs env c b3 b4 b5 b6 zT) [] [] fun r o h=>r = .tup []/\o=0/\h=hT fs env c b3 b4 b5 b6 (eTy t).cells:=by
 refine zFZ (first:=[]) (cap:=[pB b3,pB b4,pB b5,pB b6]) ttok mixed Tryz.func41 rfl (by rfl) rfl (Nat.le_of_ble_eq_true rfl) (by kernel_rfl) ?_;refine⟨0,_,_,rfl,rfl,?_⟩;refine⟨1,_,_,rfl,rfl,?_⟩;refine⟨2,_,rfl,Nat.le_of_ble_eq_true rfl,?_⟩;refine .inl ⟨_,h,?_⟩;refine⟨rfl,3,_,rfl,Nat.le_of_ble_eq_true rfl,?_⟩;exact⟨rfl,rfl,rfl⟩
theorem zWG {P:Program} {n:Nat} {cap:Array Value} {hin:List (Nat×HO)} {post:AV->Nat->List (Nat×HO)->Prop} (h:CallsG P (.func (.func n) #[] cap) hin [] [] post) (F:Nat->Option Nat) (w:World) (hf:Fresh F w) (hh:HeapIn F w hin):Calls P n cap w (qM F (keys hin) [] w post):=by
 obtain⟨f,first,cap',he,hen,hcalls⟩:=h;injection he with e1 e2 e3
 injection e1 with e1
 subst e1;subst e2;subst e3;have:=hcalls F w [] hf hh ⟨rfl,fun i v a h=>by simp at h,fun i v sz h=>by simp at h,List.nodup_nil⟩ (by simp[yJ]);simpa[yJ] using this
theorem zdZ {α:Type} {a:Array α} (h:a.size=4):∃x0 x1 x2 x3,a = #[x0,x1,x2,x3]:=by
 obtain⟨l⟩:=a
 match l,h with
 | [x0,x1,x2,x3],_=>exact⟨x0,x1,x2,x3,rfl⟩
def zeU (t:Tp) (n:Int) (c:CE):Prop := ∃b l,yQ c.vs 6 = .v (.lit (pB b))/\(b,HO.cells l)∈c.hp/\l.map wk=(eTy t).cells/\yQ c.vs 7 = .v (.lit (.int .i64 n))
theorem zOU {args:List AV} {t:Tp} {n:Int} (hlen:args.length<=Tryz.f12.ntmps) {c:Code} (hb:Tryz.f12.body=some c) (hk:zV Tryz.f12.ntmps c=true) (hw:Wsem Tryz.prog c (jE args [] []) (fun _=>False) (fun _ _=>False) (zeU t n)):zF Tryz.prog 12 args (.tup [eTy t,.lit (.int .i64 n)]):=by
 refine⟨12,#[],#[],rfl,⟨_,Tryz.func12,by rw[hb];rfl,rfl⟩,fun F w vs hfr hh ha hy=>?_⟩;have hyk:yJ vs []=[]:=by cases vs<;>rfl
 rw[show (#[]:Array Value)++vs.toArray ++ #[]=vs.toArray by simp];obtain⟨g,hR⟩:=zCW hfr hh ha hy (n:=Tryz.f12.ntmps) (by rw[ha.len];exact hlen);refine calls_of_wp Tryz.func12 hb (Go.wp_mono (hw _ trivial hk g _ _ (hR.weaken (zA3 args [] []) (zBZ args [] []) (fun _=>rfl) rfl)) fun ex a w' hp=>?_);cases ex with
 | normal=>obtain⟨e,g',h1,h2⟩:=hp;exact h1.elim
 | exit i=>obtain⟨e,g',h1,h2⟩:=hp;exact h1.elim
 | goto l=>exact hp.elim
 | panic ch=>exact hp.elim
 | outgrown=>exact hp.elim
 | ret =>
  obtain⟨c',g',⟨b,l,q1,q2,q4,q3⟩,hR'⟩:=hp;have s6:=hR'.slots 6;have s7:=hR'.slots 7;rw[show (den c').vals 6=_ from q1] at s6;rw[show (den c').vals 7=_ from q3] at s7;have e6:=s6.lit_eq.1;have e7:=s7.lit_eq.1;rw[Array.getD_eq_getD_getElem?] at e6 e7;obtain⟨cs,E,h1,h2⟩:=hR'.heap.ok _ q2;simp only at h1;have h2:=h2.wkM;rw[q4] at h2;have l4:cs.size=4:=by simpa[eTy,AV.cells] using h2.1
  obtain⟨x0,x1,x2,x3,rfl⟩:=zdZ l4;have d0:=(cellAt h1 0 (by simp)).1;have d1:=(cellAt h1 1 (by simp)).1;have d2:=(cellAt h1 2 (by simp)).1;have d3:=(cellAt h1 3 (by simp)).1;simp only[List.getElem_toArray,List.getElem_cons_zero,List.getElem_cons_succ] at d0 d1 d2 d3;refine⟨hR'.defers,.tuple #[.agg #[x0,x1,x2,x3],.int .i64 n],?_,_,_,0,[],g'.F,rfl,⟨rfl,rfl,rfl⟩,?_,fun sz h=>by omega,hR'.kept,hR'.fext,hR'.fresh,⟨by simp[keys],fun b hb=>by simp[keys] at hb,fun x hx=>by simp at hx⟩,fun b hb=>by simp[keys] at hb⟩
  ·simp[results,Tryz.f12,go_sem,e6,e7,d0,d1,d2,d3]
  ·refine .tup _ _ rfl fun j u c hu hc=>?_
   match j,hu,hc with
   | 0,hu,hc =>
    cases hu;cases hc
    refine .agg _ _ rfl (fun c hc=>?_) fun j u c hu hc=>(h2.2 j u c (by simpa using hu) hc).1;simp only[List.mem_cons,List.not_mem_nil,or_false] at hc;rcases hc with rfl|rfl|rfl|rfl<;>rfl
   | 1,hu,hc=>cases hu;cases hc;exact .lit _ rfl
theorem zJY {fs:List Fd} {env:List Nm2} {c:Cr} {t:Tp} (h:OfS (.of fs env) c t) {K:Nat} (hf:FitX K t []):zF Tryz.prog 12 [.sl (zEW fs),.sl (xW env),eC c] (.tup [eTy t,.lit (.int .i64 0)]):=by
 have hs:=zCZ t.sz t (Nat.le_refl _) K [] hf;unfold qB at hs;rw[zKX] at hs;refine zOU (Nat.le_of_ble_eq_true rfl) rfl (by kernel_rfl) ?_;refine Wsem.of ttok mixed ?_;refine .inr ⟨rfl,fun b3=>⟨rfl,fun b4=>⟨rfl,fun b5=>⟨rfl,fun b6=>?_⟩⟩⟩⟩;have hd:=zVB (n:=41) ⟨_,Tryz.func41,rfl,rfl⟩ (cap := #[pB b3,pB b4,pB b5,pB b6]) (hin:=hT fs env c b3 b4 b5 b6 zT) (hout:=hT fs env c b3 b4 b5 b6 (eTy t).cells) (by simp[CellsL]) (by simp[CellsL]) rfl (zWG (zU9 h b3 b4 b5 b6)) (fun b hb=>by simpa[keys] using hb);refine .inr (.inr (.inr (.inl ⟨[0,1,2,3],hT fs env c b3 b4 b5 b6 zT,hT fs env c b3 b4 b5 b6 (eTy t).cells,_,rfl,by decide,rfl,hd,?_⟩)));refine⟨fun h=>absurd h (by decide),fun _=>?_⟩;refine⟨3,_,rfl,Nat.le_of_ble_eq_true rfl,?_⟩;refine .inl ⟨_,hs,?_⟩;refine⟨rfl,3,_,rfl,Nat.le_of_ble_eq_true rfl,?_⟩;exact⟨b6,_,rfl,List.mem_of_getElem? (i:=3) rfl,rfl,rfl⟩
theorem zZQ {fs:List Fd} {env:List Nm2} {c:Cr} (h:OfN (.of fs env) c) (b3 b4 b5 b6:Nat) (l:List AV) (F:Nat->Option Nat) (w:World) (hf:Fresh F w) (hh:HeapIn F w (hT fs env c b3 b4 b5 b6 l)):Calls Tryz.prog 41 #[pB b3,pB b4,pB b5,pB b6] w fun e w'=>e = .panicked (zLJ wJ)/\RowKit.Below w.heap.size w w':=by
 obtain⟨f,first,cap,he,hen,hcalls⟩:=h;obtain⟨cs3,E3,h3,r3⟩:=hh.ok (b3,HO.cells [.sl (zEW fs)]) (by simp);obtain⟨cs4,E4,h4,r4⟩:=hh.ok (b4,HO.cells [.sl (xW env)]) (by simp);obtain⟨cs5,E5,h5,r5⟩:=hh.ok (b5,HO.cells (eC c).cells) (by simp);injection he with e1 e2 e3
 injection e1 with e1
 subst e1;subst e2;subst e3;simp only at h3 h4 h5;have l3:=r3.1;have l4:=r4.1;have l5:=r5.1;obtain⟨x3,rfl⟩:∃x,cs3 = #[x]:=by
  obtain⟨cl⟩:=cs3
  match cl,l3 with
  | [x],_=>exact⟨x,rfl⟩
 obtain⟨x4,rfl⟩:∃x,cs4 = #[x]:=by
  obtain⟨cl⟩:=cs4
  match cl,l4 with
  | [x],_=>exact⟨x,rfl⟩
 obtain⟨y0,y1,y2,y3,y4,y5,y6,y7,y8,y9,rfl⟩:=ten (a:=cs5) (by simpa[eC,AV.cells] using l5);have q3:=(r3.2 0 x3 _ rfl rfl).1;have q4:=(r4.2 0 x4 _ rfl rfl).1;obtain⟨A3,cp3,rfl,_⟩:=q3.sl_shape;obtain⟨A4,cp4,rfl,_⟩:=q4.sl_shape;have hargs:=hcalls F w [.agg #[.slice A3 (zEW fs).length cp3,.slice A4 (xW env).length cp4,.slice none 0 0,.slice none 0 0,.int .i64 0],.agg #[y0,y1,y2,y3,y4,y5,y6,y7,y8,y9]] hf ⟨rfl,fun i v a hv ha=>?_,fun i v sz _ h=>by simp at h,by simp[yJ]⟩
 ·have c3:=(cellAt h3 0 (by simp)).1;have c4:=(cellAt h4 0 (by simp)).1;have c5:=fun (k:Nat) (hk:k<10)=>(cellAt h5 k (by simpa using hk)).1;have d0:=c5 0 (by omega);have d1:=c5 1 (by omega);have d2:=c5 2 (by omega);have d3:=c5 3 (by omega);have d4:=c5 4 (by omega);have d5:=c5 5 (by omega);have d6:=c5 6 (by omega);have d7:=c5 7 (by omega);have d8:=c5 8 (by omega);have d9:=c5 9 (by omega);simp only[List.getElem_toArray,List.getElem_cons_zero,List.getElem_cons_succ] at c3 c4 d0 d1 d2 d3 d4 d5 d6 d7 d8 d9;simp only[List.nil_append,Array.append_empty,Array.empty_append] at hargs;have mixed:=mixed
  go_enter Tryz.func41,Tryz.ntmps41
  go_wp2_with (go_at_call 42;refine hargs.mono ?_;rintro e w' ⟨rfl,hB⟩)
  exact⟨rfl,rfl,hB⟩
 ·match i,hv,ha with
  | 0,hv,ha =>
   cases hv;cases ha
   refine .agg _ _ rfl (fun c hc=>?_) fun j u c hu hc=>?_
   ·simp only[List.mem_cons,List.not_mem_nil,or_false] at hc;rcases hc with rfl|rfl|rfl|rfl|rfl<;>rfl
   ·match j,hu,hc with
    | 0,hu,hc=>cases hu;cases hc;exact q3
    | 1,hu,hc=>cases hu;cases hc;exact q4
    | 2,hu,hc=>cases hu;cases hc;exact .slNil
    | 3,hu,hc=>cases hu;cases hc;exact .slNil
    | 4,hu,hc=>cases hu;cases hc;exact .lit _ rfl
  | 1,hv,ha =>
   cases hv;cases ha
   exact .agg _ _ l5 (fun c hc=>by
    obtain⟨k,hk,rfl⟩:=List.getElem_of_mem hc;have hk2:k<10:=hk;exact (r5.2 k _ _ (List.getElem?_eq_getElem (by simpa using hk2)) (List.getElem?_eq_getElem hk)).2) fun j u c hu hc=>(r5.2 j u c (by simpa using hu) hc).1
theorem zOH {fs:List Fd} {env:List Nm2} {c:Cr} (h:OfN (.of fs env) c):zF Tryz.prog 12 [.sl (zEW fs),.sl (xW env),eC c] (.tup [eTy .no,.lit (.int .i64 50)]):=by
 refine zOU (t := .no) (Nat.le_of_ble_eq_true rfl) rfl (by kernel_rfl) ?_;refine Wsem.of ttok mixed ?_;refine .inr ⟨rfl,fun b3=>⟨rfl,fun b4=>⟨rfl,fun b5=>⟨rfl,fun b6=>?_⟩⟩⟩⟩;have hd:=z05 (n:=41) ⟨_,Tryz.func41,rfl,rfl⟩ (cap := #[pB b3,pB b4,pB b5,pB b6]) (hin:=hT fs env c b3 b4 b5 b6 zT) (by simp[CellsL]) rfl (zZQ h b3 b4 b5 b6 zT);refine .inr (.inr (.inr (.inl ⟨[0,1,2,3],hT fs env c b3 b4 b5 b6 zT,hT fs env c b3 b4 b5 b6 zT,_,rfl,by decide,rfl,hd,?_⟩)));refine⟨fun _=>?_,fun h=>absurd h (by decide)⟩;refine⟨rfl,3,_,rfl,Nat.le_of_ble_eq_true rfl,?_⟩;exact⟨b6,_,rfl,List.mem_of_getElem? (i:=3) rfl,rfl,rfl⟩
end Go.Proofs.YtdmbahepaglcbaaGreatDoor
