/- tried, over what its function comes to: done, or of no type. No condition. -/
import Derived.Test.YtebmimnglcdogaaGreatDoorW
set_option linter.unusedSimpArgs false
set_option linter.unusedVariables false
namespace Go.Proofs.YtebmimnglcdogaaGreatDoor.Ck
open Go Fp
set_option maxRecDepth 10000
set_option maxHeartbeats 8000000
set_option linter.unusedVariables false
theorem zU0 {F F':Nat->Option Nat} {w w':World} {b:Nat} {o:HO} (h:HoOk F w b o) (hb:w'.heap[b]? = w.heap[b]?) (kp:Keeps F w F' w') (hm:∀l s,o≠.it l s) (hr:∀p,o≠.raw p):HoOk F' w' b o:=by
 cases o with
 | cells l=>obtain⟨cs,E,h1,h2⟩:=h;exact⟨cs,E,hb.trans h1,⟨h2.1,fun j v c hv hc=>⟨(h2.2 j v c hv hc).1.mono kp,(h2.2 j v c hv hc).2⟩⟩⟩
 | mp l=>obtain⟨es,clock,h1,h2,h3⟩:=h;exact⟨es,clock,hb.trans h1,h2,h3.1,fun j e p he hp=>⟨(h3.2 j e p he hp).1.mono kp,(h3.2 j e p he hp).2.mono kp⟩⟩
 | it l s=>exact absurd rfl (hm l s)
 | raw p=>exact absurd rfl (hr p)
def CellsL (h:List (Nat×HO)):Prop := ∀x∈h,∃l,x.2 = .cells l
theorem CellsL.keep {h:List (Nat×HO)} (hc:CellsL h) {F F':Nat->Option Nat} {w w':World} (hh:HeapIn F w h) (hF:∀b∈keys h,F' b=some 0) (hb:∀b∈keys h,w'.heap[b]? = w.heap[b]?) (kp:Keeps F w F' w'):HeapIn F' w' h :=
 ⟨hh.nodup,hF,fun x hx=>by
  obtain⟨l,e⟩:=hc x hx;exact zU0 (hh.ok x hx) (hb x.1 (List.mem_map.2 ⟨x,hx,rfl⟩)) kp (fun _ _ h=>by rw[e] at h;cases h) (fun _ h=>by rw[e] at h;cases h)⟩
theorem zUC {F:Nat->Option Nat} {w:World} {h:List (Nat×HO)} (hh:HeapIn F w h):∀b∈keys h,b<w.heap.size:=fun b hb=>by
 obtain⟨x,hx,rfl⟩:=List.mem_map.1 hb;exact (hh.ok x hx).lt
theorem zRD {n:Nat} (he:Fp.Enters Tryz.prog n) {cap:Array Value} {hin hout:List (Nat×HO)} (hcl:CellsL hin) (hcl2:CellsL hout) (hone:(Value.func (.func n) #[] cap).oneCell'=true) (hc:∀F w,Fresh F w->HeapIn F w hin->Calls Tryz.prog n cap w (yJ F (keys hin) [] w fun r o h=>r = .tup []/\o=0/\h=hout)) (hkeys:∀b∈keys hout,b∈keys hin) :
  CallsG Tryz.prog (fnv 44) hin [.lit (.func (.func n) #[] cap)] [] fun r o h=>r = .lit (.int .i64 0)/\o=0/\h=hout:=by
 refine⟨44,#[],#[],rfl,⟨_,Tryz.func44,rfl,rfl⟩,fun F w vs hfr hh ha hy=>?_⟩;have hlen:=ha.len
 match vs,hlen with
 | [v],_ =>
  have hv:=(ha.rep 0 v _ rfl rfl).lit_eq.1;subst hv;rw[show ((#[]:Array Value)++[Value.func (.func n) #[] cap].toArray ++ #[]) = #[.func (.func n) #[] cap] by simp,show zS [Value.func (.func n) #[] cap] []=[] from rfl];have hw1:(w.alloc (.cells #[.int .i64 0] 44)).heap[w.heap.size]? = some (.cells #[.int .i64 0] 44 (0,0)):=World.heap_alloc_new w _;have hsz:(w.alloc (.cells #[.int .i64 0] 44)).heap.size=w.heap.size+1:=by simp
  have hB1:RowKit.Below w.heap.size w (w.alloc (.cells #[.int .i64 0] 44)):=(RowKit.Below.refl _ w).alloc (Nat.le_refl _) _;have kp1:Keeps F w F (w.alloc (.cells #[.int .i64 0] 44)):=(Grow.alloc w _).keeps (fun b hb=>rfl);have hh1:HeapIn F (w.alloc (.cells #[.int .i64 0] 44)) hin:=hcl.keep hh hh.shut (fun b hb=>hB1.block b (zUC hh b hb)) kp1;have hlt:=zUC hh;refine (zRS he cap w (R:=fun w' => ∃F',Kept F (keys hin) [] (w.alloc (.cells #[.int .i64 0] 44)) w'/\zWF F F' (w.alloc (.cells #[.int .i64 0] 44)) []/\Fresh F' w'/\HeapIn F' w' hout/\w'.heap[w.heap.size]? = some (.cells #[.int .i64 0] 44 (0,0))) ?_).mono ?_
  ·refine (hc F _ (fun b hb=>hfr b (by rw[hsz] at hb;omega)) hh1).mono fun e w' hp=>?_;obtain⟨v,r,o,h,F',rfl,⟨rfl,rfl,rfl⟩,p1,p2,p3,p4,p5,p6,p7⟩:=hp;obtain⟨cs,rfl,hcs,_⟩:=p1.tup_eq;have e0:cs = #[]:=Array.eq_empty_of_size_eq_zero (by simpa using hcs);have hb:w'.heap[w.heap.size]? = some (.cells #[.int .i64 0] 44 (0,0)):=by
    rcases p3.block w.heap.size (by rw[hsz];omega) with h|⟨h,_⟩|h
    ·have:=hlt _ h;omega
    ·simp at h
    ·rw[h];exact hw1
   exact⟨by rw[e0],hb,F',p3,p4,p5,p6,hb⟩
  ·rintro e w2 ⟨rfl,w1,⟨F',p3,p4,p5,p6,hb⟩,rfl⟩;have hne:∀b,b<w.heap.size->(w1.setCell ⟨w.heap.size,0,none⟩ (.int .i64 0)).heap[b]? = w1.heap[b]?:=fun b hb=>RowKit.Below.heap_setCell _ _ _ _ (by show b≠w.heap.size;omega);have hcell:∀a,(w1.setCell ⟨w.heap.size,0,none⟩ (.int .i64 0)).cell? a=w1.cell? a:=fun a=>by
    by_cases e:(⟨w.heap.size,0,none⟩:Addr)=a
    ·subst e;have h1:w1.cell? ⟨w.heap.size,0,none⟩=some (.int .i64 0):=by simp[World.cell?,hb]
     rw[World.cell?_setCell_same' _ _ _ (by rw[h1];rfl),h1]
    ·exact World.cell?_setCell_other _ _ _ _ e
   have hsame:∀b,b≠w.heap.size->(w1.setCell ⟨w.heap.size,0,none⟩ (.int .i64 0)).heap[b]? = w1.heap[b]?:=fun b hb=>RowKit.Below.heap_setCell _ _ _ _ hb;have kp:Keeps F' w1 F' (w1.setCell ⟨w.heap.size,0,none⟩ (.int .i64 0)):=⟨fun b k u h c=>⟨by rw[hcell];exact h,c⟩,fun b es c h hc=>⟨by
    rw[hsame b (fun e=>by rw[e,hb] at h;cases h)];exact h,hc⟩⟩
   have hsz2:(w1.setCell ⟨w.heap.size,0,none⟩ (.int .i64 0)).heap.size=w1.heap.size:=by simp[World.setCell]
   refine⟨_,_,0,hout,F',rfl,⟨rfl,rfl,rfl⟩,.lit _ rfl,fun sz h=>by omega,⟨?_,?_,?_,?_,fun b hlt2=>?_⟩,fun b hlt2=>p4 b (by rw[hsz];omega),fun b hb2=>p5 b (by rw[hsz2] at hb2;exact hb2),hcl2.keep p6 p6.shut (fun b hb2=>hne b (hlt b (hkeys b hb2))) kp,fun b hb2 => .inl (hkeys b hb2)⟩
   ·exact p3.os
   ·exact p3.tape
   ·exact p3.output
   ·have:=p3.size;rw[hsz] at this;rw[hsz2];omega
   ·rw[hne b hlt2];rcases p3.block b (by rw[hsz];omega) with h|⟨h,_⟩|h
    ·exact .inl h
    ·simp at h
    ·exact .inr (.inr (h.trans (hB1.block b hlt2)))
end Go.Proofs.YtebmimnglcdogaaGreatDoor.Ck
