/- name: the last name of the list that is it, or none (a panic). No condition but on lengths. -/
import Derived.Test.YtebmimnglcdogaaGreatDoorU
set_option linter.unusedSimpArgs false
set_option linter.unusedVariables false
set_option maxHeartbeats 8000000
namespace Go.Proofs.YtebmimnglcdogaaGreatDoor.Ck
open Go Go.RowKit Go.Proofs Go.Shelf Fp
set_option maxRecDepth 100000
attribute [local go_sem] Oper.semAt_some
theorem four (w:World) (o0 o1 o2 o3:Obj):∀W,(((w.alloc o0).alloc o1).alloc o2).alloc o3=W->W.heap.size=w.heap.size+4/\W.heap[w.heap.size+1]? = some o1/\W.heap[w.heap.size+1+1]? = some o2/\W.heap[w.heap.size+1+1+1]? = some o3/\Below w.heap.size w W:=by
 rintro W rfl;have e1:=World.alloc_heap_new (w.alloc o0) o1;have e2:=World.alloc_heap_new ((w.alloc o0).alloc o1) o2;have e3:=World.alloc_heap_new (((w.alloc o0).alloc o1).alloc o2) o3;simp only[World.size_alloc] at e1 e2 e3;refine⟨by simp,?_,?_,e3,((((Below.refl _ w).alloc (Nat.le_refl _) _).alloc (by simp) _).alloc (by simp;omega) _).alloc (by simp;omega) _⟩
 ·rw[Below.heap_alloc _ _ _ (by simp),Below.heap_alloc _ _ _ (by simp)];exact e1
 ·rw[Below.heap_alloc _ _ _ (by simp)];exact e2
theorem cellAt {W:World} {b:Nat} {cs:Array Value} {t:TypeId} {z:Nat×Nat} (h:W.heap[b]? = some (.cells cs t z)) (k:Nat) (hk:k<cs.size):W.cell? ⟨b,k,none⟩=some cs[k]/\(z=(0,0)->W.frozen? ⟨b,k,none⟩=false):=by
 refine⟨by simp[World.cell?,h,hk],fun hz=>?_⟩;subst hz;simp[World.frozen?,h]
theorem bytes_eq {a b:ByteArray} (h:(a.toList == b.toList)=true):a=b:=by
 rw[Fp.toList_beq] at h;exact of_decide_eq_true h
theorem zW7 {a b:ByteArray} (h:(a.toList == b.toList)=false):a≠b:=by
 rw[Fp.toList_beq] at h;exact of_decide_eq_false h
theorem zYM {len:Nat} (x:Pl len):x∈back len len:=by
 unfold back;refine List.mem_map.2 ⟨⟨x.1,?_⟩,List.mem_attach _ _,rfl⟩;rw[List.take_of_length_le (by simp)];simpa using x.2
theorem zXX {len k:Nat} (hk:k<=len) {x:Pl len} (h:len-1-k<x.1):x∈back len k:=by
 have hx:=x.2;unfold back;refine List.mem_map.2 ⟨⟨x.1,?_⟩,List.mem_attach _ _,rfl⟩;refine List.mem_of_getElem? (i:=len-1-x.1) ?_;rw[List.getElem?_take,if_pos (by omega),List.getElem?_reverse (by simp;omega)];rw[show (List.range len).length-1-(len-1-x.1)=x.1 by rw[List.length_range];omega];exact List.getElem?_range hx
theorem zXJ (F:Fence) (n:Nat) (h3:F.fn 99) (h5:F.fn 123) (h7:F.fn 143) (hro:F.round=none) (hn:6<=n) (w:World) (f0 f2 f3 f4 a0 a1 a3 a4 a5 a6 a7 a8 a9:Value) (a:Option Addr) (cap:Nat) (s:ByteArray) (len:Nat) (us:Nat->Value) (nm na:Nat->ByteArray) (fm nu:Nat->Int) (ad:Nat->Option Addr) (ln cp:Nat->Nat) (hI:NmsAt w.heap.size w (.slice a len cap) len us) (hreach:len<1000000000) (hus:∀k,k<len->us (k*5) = .string (nm k)/\us (k*5+1) = .int .i64 (fm k)/\us (k*5+2) = .int .i64 (nu k)/\us (k*5+3) = .string (na k)/\us (k*5+4) = .slice (ad k) (ln k) (cp k)) :
  CallsIn F n Tryz.prog 99 #[.agg #[f0,.slice a len cap,f2,f3,f4],.agg #[a0,a1,.string s,a3,a4,a5,a6,a7,a8,a9]] w fun e W' =>
   ((e = .panicked (z18 z3E)/\∀k,k<len->nm k≠s)∨∃k,k<len/\nm k=s/\(∀j,k<j->j<len->nm j≠s)/\e = .returned (.agg #[us (k*5+1),us (k*5+2),us (k*5+3),us (k*5+4)]))/\Below w.heap.size w W':=by
 have h1:1<=n:=by omega
 refine callsIn_of_wp_marks Tryz.func99 rfl h3 ?_ hro;simp only[Tryz.ntmps99,List.size_toArray,List.length_cons,List.length_nil,Nat.reduceAdd,Nat.reduceSub,Array.replicate_succ,Array.replicate_zero,List.push_toArray,List.append_toArray,List.nil_append,List.cons_append]
 gi_wp2_with (gi_at_call 123;refine (z08 F (n-1) h5 hro _ _ _ _).mono ?_;rintro e w' ⟨rfl,rfl⟩)
 obtain⟨W0,hW0⟩:∃W0,((((w.alloc (Obj.cells #[f0,Value.slice a len cap,f2,f3,f4] 119)).alloc (Obj.cells #[a0,a1,Value.string s,a3,a4,a5,a6,a7,a8,a9] 57)).alloc (Obj.cells #[Value.int IntKind.i64 0,Value.int IntKind.i64 0,Value.string {data := #[]},Value.slice none 0 0] 37)).alloc (Obj.cells #[Value.slice a len cap] 116))=W0:=⟨_,rfl⟩
 obtain⟨hsz,k1,k2,k3,hB0⟩:=four w _ _ _ _ W0 hW0;rw[hW0];clear hW0;refine wpIn_rangeFunc_ownH hro h1 (gf:=143) (lb := #[.pointer (some ⟨w.heap.size+1+1+1,0,none⟩)]) rfl h7 (enters_of Tryz.func143 (by kernel_rfl) rfl)
  (zSF F (n-1) h7 hro (by omega) (w.heap.size+1+1+1) W0.heap.size (.slice a len cap) len us hreach W0 (by omega) (by omega) (Nat.le_refl _) (cellAt k3 0 (by simp)).1 (by
   rcases hI.below hB0 with h|⟨b,off,cap,e,hb,hc⟩
   ·exact .inl h
   ·exact .inr ⟨b,off,cap,e,by omega,hc⟩)) belowK_t (belowK_b (by omega)) (Below.refl _ _) (fun _=>rfl)
  (fun pre W=>(∀x∈pre,nm x.1≠s)/\Below W0.heap.size W0 W)
  (fun c pre W=>(c = .ret/\∃ini last,pre=ini++[last]/\(∀x∈ini,nm x.1≠s)/\nm last.1=s/\∀j,j<4->W.cell? ⟨w.heap.size+1+1,j,none⟩=some (us (last.1*5+1+j)))/\Below w.heap.size w W)
  (OwnFrom.and (Own.from (fun s A B row hs hg hr=>hs) _) (ownFrom_below (Nat.le_refl _) (Nat.le_refl _)))
  (fun c=>OwnFrom.and (Own.from (fun s A B row hs hg hr=>by obtain⟨hc,ini,last,e1,e2,e3,e4⟩:=hs;exact⟨hc,ini,last,e1,e2,e3,fun j hj=>cell_kept (e4 j hj) hg hr⟩) _) (ownFrom_below (Nat.le_refl _) (by omega)))
  ⟨by simp,Below.refl _ _⟩
  (fun x a' W => ∃Bx,W0.heap.size<=Bx/\(∀j,j<5->W.cell? ⟨Bx,j,none⟩=some (us (x.1*5+j)))/\a'={tmps := #[.agg #[f0,.slice a len cap,f2,f3,f4],.agg #[a0,a1,.string s,a3,a4,a5,a6,a7,a8,a9],.pointer (some ⟨w.heap.size,0,none⟩),.pointer (some ⟨w.heap.size+1,0,none⟩),.pointer (some ⟨w.heap.size+1+1,0,none⟩),undef,.pointer (some ⟨Bx,0,none⟩),.pointer (some ⟨w.heap.size,1,none⟩),.slice a len cap,.func (.func 143) #[] #[.pointer (some ⟨w.heap.size+1+1+1,0,none⟩)],.int .i64 (x.1:Nat),zU8 us x.1,undef,undef,undef,undef,undef,undef,undef,undef,undef],defers:=[]})
  (fun x a' _ X Y row hs hg hr=>by obtain⟨Bx,h1,h2,h3⟩:=hs;exact⟨Bx,h1,fun j hj=>cell_kept (h2 j hj) hg (fun r e=>(hr r e).2),h3⟩)
  ?assign ?body ?done ?stop
 case assign =>
  rintro l pre x W K ⟨hp,hB⟩ hK;obtain⟨u0,u1,u2,u3,u4⟩:=hus x.1 x.2;simp only[zU8,u0,u1,u2,u3,u4] at hK⊢
  gi_wp2
  have hn:=World.alloc_heap_new W (Obj.cells #[Value.string (nm x.val),Value.int IntKind.i64 (fm x.val),Value.int IntKind.i64 (nu x.val),Value.string (na x.val),Value.slice (ad x.val) (ln x.val) (cp x.val)] 211);refine hK _ _ ((KeepsOthers.alloc _ _).from _) ((Below.refl _ W).alloc hB.size _) ⟨hp,hB.alloc hB.size _⟩ ⟨W.heap.size,hB.size,fun j hj=>?_,rfl⟩
  match j,hj with
  | 0,_=>rw[Nat.add_zero,u0];exact (cellAt hn 0 (by simp)).1
  | 1,_=>rw[u1];exact (cellAt hn 1 (by simp)).1
  | 2,_=>rw[u2];exact (cellAt hn 2 (by simp)).1
  | 3,_=>rw[u3];exact (cellAt hn 3 (by simp)).1
  | 4,_=>rw[u4];exact (cellAt hn 4 (by simp)).1
 case body =>
  rintro l pre x a' W hl ⟨r,hr⟩ ⟨hp,hB⟩ ⟨Bx,hBx,hX,rfl⟩ hlt;obtain⟨u0,u1,u2,u3,u4⟩:=hus x.1 x.2;have x0:=hX 0 (by omega);rw[Nat.add_zero] at x0;have x1:=hX 1 (by omega);have x2:=hX 2 (by omega);have x3:=hX 3 (by omega);have x4:=hX 4 (by omega);have cs:W.cell? ⟨w.heap.size+1,2,none⟩=some (.string s):=(hB.cell (by show w.heap.size+1<_;omega)).trans (cellAt k1 2 (by simp)).1;have r0:=(hB.cell (p:=⟨w.heap.size+1+1,0,none⟩) (by show w.heap.size+1+1<_;omega)).trans (cellAt k2 0 (by simp)).1;have r1:=(hB.cell (p:=⟨w.heap.size+1+1,1,none⟩) (by show w.heap.size+1+1<_;omega)).trans (cellAt k2 1 (by simp)).1;have r2:=(hB.cell (p:=⟨w.heap.size+1+1,2,none⟩) (by show w.heap.size+1+1<_;omega)).trans (cellAt k2 2 (by simp)).1;have r3:=(hB.cell (p:=⟨w.heap.size+1+1,3,none⟩) (by show w.heap.size+1+1<_;omega)).trans (cellAt k2 3 (by simp)).1;have z0:=(hB.frozen (p:=⟨w.heap.size+1+1,0,none⟩) (by show w.heap.size+1+1<_;omega)).trans ((cellAt k2 0 (by simp)).2 rfl);have z1:=(hB.frozen (p:=⟨w.heap.size+1+1,1,none⟩) (by show w.heap.size+1+1<_;omega)).trans ((cellAt k2 1 (by simp)).2 rfl);have z2:=(hB.frozen (p:=⟨w.heap.size+1+1,2,none⟩) (by show w.heap.size+1+1<_;omega)).trans ((cellAt k2 2 (by simp)).2 rfl);have z3:=(hB.frozen (p:=⟨w.heap.size+1+1,3,none⟩) (by show w.heap.size+1+1<_;omega)).trans ((cellAt k2 3 (by simp)).2 rfl);simp only[zU8,u0,u1,u2,u3,u4] at x0 x1 x2 x3 x4⊢
  gi_wp2
  ·have hx:nm x.1=s:=by rename_i hq;exact bytes_eq hq
   have hcs:=World.cell?_setCells_in (w.heap.size+1+1) [Value.int .i64 (fm x.1),.int .i64 (nu x.1),.string (na x.1),.slice (ad x.1) (ln x.1) (cp x.1)] 0 W (fun j hj=>by
    rw[Nat.zero_add]
    match j,hj with
    | 0,_=>rw[r0];rfl
    | 1,_=>rw[r1];rfl
    | 2,_=>rw[r2];rfl
    | 3,_=>rw[r3];rfl)
   refine⟨((((KeepsOthers.setCell _ _ _).trans (KeepsOthers.setCell _ _ _)).trans (KeepsOthers.setCell _ _ _)).trans (KeepsOthers.setCell _ _ _)).from _,⟨rfl,pre,x,rfl,hp,hx,fun j hj=>?_⟩,hB0.trans ((((hB.mono (by omega)).setCell (by show w.heap.size<=w.heap.size+1+1;omega) _).setCell (by show w.heap.size<=w.heap.size+1+1;omega) _).setCell (by show w.heap.size<=w.heap.size+1+1;omega) _ |>.setCell (by show w.heap.size<=w.heap.size+1+1;omega) _)⟩
   match j,hj with
   | 0,_=>rw[Nat.add_zero,u1];exact hcs 0 (by simp)
   | 1,_=>rw[show x.1*5+1+1=x.1*5+2 by omega,u2];exact hcs 1 (by simp)
   | 2,_=>rw[show x.1*5+1+2=x.1*5+3 by omega,u3];exact hcs 2 (by simp)
   | 3,_=>rw[show x.1*5+1+3=x.1*5+4 by omega,u4];exact hcs 3 (by simp)
  ·have hx:nm x.1≠s:=by rename_i hq;exact zW7 hq
   exact⟨KeepsFrom.refl _ _,Below.refl _ _,fun y hy=>(List.mem_append.1 hy).elim (hp y) fun e=>by rw[List.mem_singleton.1 e];exact hx,hB⟩
 case done =>
  rintro D ys W hD rfl ⟨hp,hB⟩ hK
  gi_wp2
  refine⟨by simp,.inl ⟨_,_,rfl,run_takeDeferred hK,?_⟩⟩;refine⟨.inl ⟨rfl,fun k hk=>?_⟩,hB0.trans ((hB.mono (by omega)).trans (belowK_b (w:=w) (Nat.le_refl _) W D _ _ (by omega) hK rfl rfl))⟩;exact hp ⟨k,hk⟩ (zYM ⟨k,hk⟩)
 case stop =>
  rintro D c pre W hD ⟨k,hk,rfl⟩ ⟨⟨rfl,ini,last,e1,e2,e3,e4⟩,hB⟩ hK
  gi_wp2
  refine⟨by simp,.inl ⟨_,_,rfl,run_takeDeferred hK,?_⟩⟩;have hc:∀j,j<4->(W.putObj D (.deferred none)).cell? ⟨w.heap.size+1+1,j,none⟩=some (us (last.1*5+1+j)):=fun j hj=>cell_kept (e4 j hj) (grownBy_putObj' _ D (.deferred none)) (fun r e=>by cases e;exact⟨_,hK,rfl⟩);have h0:=hc 0 (by omega);have h1:=hc 1 (by omega);have h2:=hc 2 (by omega);have h3:=hc 3 (by omega);have hk1:last.1<len:=last.2;obtain⟨k',rfl⟩:∃k',k=k'+1:=by
   cases k with
   | zero=>rw[zHC] at e1;simp at e1
   | succ k'=>exact⟨k',rfl⟩
  rw[zMV (by omega)] at e1;obtain⟨rfl,e5⟩:=List.append_inj' e1 rfl;have e6:last.1=len-1-k':=by
   simp only[List.cons.injEq,and_true] at e5;rw[<-e5]
  refine⟨.agg #[us (last.1*5+1),us (last.1*5+2),us (last.1*5+3),us (last.1*5+4)],?_,.inr ⟨last.1,hk1,e3,fun j hj1 hj2=>?_,rfl⟩,hB.trans (belowK_b (w:=w) (Nat.le_refl _) W D _ _ (by omega) hK rfl rfl)⟩
  ·simp[results,Tryz.f99,go_sem,h0,h1,h2,h3]
  ·exact e2 ⟨j,hj2⟩ (zXX (by omega) (by show len-1-k'<j;omega))
end Go.Proofs.YtebmimnglcdogaaGreatDoor.Ck
