/- Code that panics with one value: contracts of calls that do; regions in the text's row. No condition. -/
import Derived.Test.YtebmimnglcdogaaGreatDoorFpM
set_option linter.unusedSimpArgs false
set_option linter.unusedVariables false
namespace Fp
open Go Go.MapKept Go.RowKit
def z18 (pv:Value):List PanicEntry:=[{v:=pv,recovered:=false}]
def z09 (P:Program) (fv:Value) (args:List AV) (pv:Value):Prop :=
 ∃f first cap,fv = .func (.func f) first cap/\Enters P f/\∀F w vs,Fresh F w->qQ F w vs args [] ->
  Calls P f (first++vs.toArray++cap) w fun e w'=>e = .panicked (z18 pv)/\Below w.heap.size w w'
abbrev zZI (P:Program) (f:Nat) (args:List AV) (pv:Value):Prop:=z09 P (fnv f) args pv
section
variable {P:Program} {T:TT} {pv:Value}
theorem Kept.below {F:Nat->Option Nat} {hk yk:List Nat} {W w w':World} (h:Kept F hk yk W w) (hb:Below w.heap.size w w'):Kept F hk yk W w':=by
 refine⟨hb.os.trans h.os,hb.tape.trans h.tape,hb.output.trans h.output,Nat.le_trans h.size hb.size,fun b hlt=>?_⟩;have e:=hb.block b (Nat.lt_of_lt_of_le hlt h.size);rcases h.block b hlt with h1|⟨h1,cs,cs',E,m,k1,k2,k3⟩|h1
 ·exact .inl h1
 ·exact .inr (.inl ⟨h1,cs,cs',E,m,k1,e.trans k2,k3⟩)
 ·exact .inr (.inr (e.trans h1))
section
variable {arr:Array Oper}
end
end
section
variable {P:Program} {T:TT} {pv:Value} {arr:Array Oper}
end
section
variable {P:Program} {T:TT} {pv:Value}
end
def zA8 (o:Oper):Oper:=match o.op with
 | .insert t m k x=>{o with op := .mapUpdate t m k x}
 | _=>o
theorem zJW (o:Oper) (ρ:Operand->Value):execOp ρ (zA8 o)=execOp ρ o:=by
 unfold zA8;split
 ·rename_i t m k x h;unfold execOp;simp only[h]
 ·rfl
theorem zL1 (o:Oper):(zA8 o).dst=o.dst:=by unfold zA8;split<;>rfl
theorem zQJ (o:Oper):(zA8 o).guard=o.guard:=by unfold zA8;split<;>rfl
theorem zXM {P:Program} {o:Oper} {a:Act} {w:World} {K:Act->World->Prop} {Q:Exit->Act->World->Prop} (h:(zA8 o).wp P a w K Q):o.wp P a w K Q:=by
 unfold Oper.wp at h⊢;rw[zJW] at h;have hd:=zL1 o;cases hr:(execOp a.eval o).run P w with
 | ok x w' =>
  rw[hr] at h;cases x<;>simp only[Oper.upon] at h⊢<;>first|(rw[hd] at h;exact h)|exact h
 | halt x w' =>
  rw[hr] at h;cases x<;>exact h
theorem zQ3 {P:Program} {o:Oper} {a:Act} {w:World} (h:(zA8 o).asks P a w):o.asks P a w:=by
 unfold Oper.asks at h⊢;rw[zJW] at h;exact h
theorem zJX {P:Program} {arr arr':Array Oper} {Q:Exit->Act->World->Prop}:∀(l:List Oper) (a:Act) (w:World),(∀o∈l,o.guard=none)->wpList P arr' Q (l.map zA8) a w->wpList P arr Q l a w
 | [],a,w,_,h=>h
 | o::l,a,w,hg,h=>by
  rw[List.map_cons] at h;unfold wpList at h⊢;have g:=hg o List.mem_cons_self;have w1:Region.wanted (zA8 o) (yielded arr' a.tmps)=true:=by unfold Region.wanted;rw[zQJ,g]
  have w2:Region.wanted o (yielded arr a.tmps)=true:=by unfold Region.wanted;rw[g]
  rw[if_pos w1] at h;rw[if_pos w2];rcases h with h|h
  ·exact .inl (Oper.wp_mono (fun a' w' h'=>zJX l a' w' (fun o' ho'=>hg o' (List.mem_cons_of_mem _ ho')) h') (zXM h))
  ·exact .inr ⟨zQ3 h.1,h.2⟩
theorem Wsem.regionIns {P:Program} {T:TT} (hT:zN P T) {arr:Array Oper} {id:Nat} {vs:List (Nat×SV)} {ow:List (Nat×Nat×Nat)} {al:List Nat} {hp:List (Nat×HO)} {n:CE->Prop} {x:Nat->CE->Prop} {r:CE->Prop}
  (hg:(arr.toList.all fun o=>o.guard.isNone)=true) (h:crf vs fun vs=>zFM P T (arr.toList.map zA8) (arr.toList.map zA8) ⟨vs,ow,[],hp⟩ n):Wsem P (.region id arr false) ⟨vs,ow,al,hp⟩ n x r:=by
 intro cx _ hk g a w hR;simp only[zK,List.all_eq_true] at hk;have hd:∀o∈arr.toList.map zA8,∀d,o.dst=some d->d<cx.n:=fun o ho d hd=>by
  obtain⟨o',ho',rfl⟩:=List.mem_map.1 ho;have:=hk o' ho';rw[zL1] at hd;rw[hd] at this;exact Nat.le_of_ble_eq_true this
 simp only[zEP] at h;obtain⟨g',hR'⟩:=hR.refresh;refine wp_region_list (zJX (arr':=(arr.toList.map zA8).toArray) arr.toList a w (fun o ho=>?_) ?_)
 ·have:=List.all_eq_true.1 hg o ho;cases hgu:o.guard with
  | none=>rfl
  | some x=>rw[hgu] at this;cases this
 ·exact qF (arr:=(arr.toList.map zA8).toArray) hT trivial (fun c g a w h1 h2=>⟨c,g,h1,h2⟩) _ _ g' a w hd h (by rw[yZ ⟨vs,ow,al,hp⟩];exact hR')
open Go Go.MapKept
section
variable {P:Program}
end
section
variable {P:Program} {arr:Array Oper}
section
variable (OA DS:Oper->CE->(CE->Prop)->Prop) (rdS:Oper->Nat) (P:Program) (T:TT) (ops:List Oper)
end
variable {T:TT}
end
section
variable {P:Program}
end
section
variable {P:Program} {arr:Array Oper}
theorem mem_ready {md:Region.Mode} {L:Array Bool} {i:Nat}:i∈Region.ready md arr L↔∃o,arr[i]? = some o/\L.getD i true=false/\∀e∈o.after.toList,Region.binds md e=true->L.getD e.on false=true:=by
 unfold Region.ready;simp only[List.mem_filter,List.mem_range,Bool.and_eq_true];constructor
 ·rintro⟨hi,h1,h2⟩;rw[Array.getElem?_eq_getElem hi] at h2⊢;refine⟨_,rfl,by simpa using h1,fun e he hb=>?_⟩;simp only[Option.map_some,Option.getD_some] at h2;rw[<-Array.all_toList,List.all_eq_true] at h2;have:=h2 e he;rw[hb] at this;simpa using this
 ·rintro⟨o,ho,h1,h2⟩;have hi:i<arr.size:=by
   rcases Nat.lt_or_ge i arr.size with h|h
   ·exact h
   ·rw[Array.getElem?_eq_none h] at ho;cases ho
  refine⟨hi,by rw[h1];rfl,?_⟩;rw[ho];simp only[Option.map_some,Option.getD_some];rw[<-Array.all_toList,List.all_eq_true];intro e he;cases hb:Region.binds md e with
  | false=>rfl
  | true=>rw[h2 e he hb];rfl
variable {T:TT}
end
section
variable {P:Program} {arr:Array Oper} {T:TT}
end
section
variable {P:Program} {arr:Array Oper} {T:TT}
section
variable {x y:Nat} (hg:∀(i:Nat) o,arr[i]? = some o->o.guard=none)
include hg
end
end
open Go Go.MapKept Go.ChangeMaps
section
variable {P:Program} {T:TT}
theorem WsemM.letout {q:Code} {c:CE} (s:Nat) {k:Nat} {a0:AV} (hs:yA c.vs s = .box k a0) (hn:zX9 s c.vs=true) {n:CE->Prop} {x:Nat->CE->Prop} {r:CE->Prop}
  (h:∀b,WsemM P q (capp c [.val s (.v (.lit (.pointer (some ⟨b,0,none⟩)))),.clr s,.heap (c.hp++[(b,HO.cells a0.cells)])]) n x r):WsemM P q c n x r:=by
 intro cx hhk hyk hk hkr hM g a w hR m;obtain⟨b,g',hR'⟩:=hR.unbox hyk (s:=s) (q:=k) (a0:=a0) hs (zDX hn);exact h b cx hhk hyk hk hkr (hM.keep fun D hD=>List.mem_append_left _ hD) g' a w (by rw[yC];exact hR') m
theorem WsemM.drop {q:Code} {vs:List (Nat×SV)} {ow:List (Nat×Nat×Nat)} {al:List Nat} {hp hp':List (Nat×HO)} (hs:hp'.Sublist hp) (hm:MK hp hp') {n:CE->Prop} {x:Nat->CE->Prop} {r:CE->Prop} (h:WsemM P q ⟨vs,ow,al,hp'⟩ n x r):WsemM P q ⟨vs,ow,al,hp⟩ n x r:=by
 intro cx hhk hyk hk hkr hM g a w hR m;exact h cx hhk hyk hk hkr (hM.keep hm) g a w (hR.drop hs) m
theorem WsemM.loop {q:Code} {c:CE} {n:CE->Prop} {x:Nat->CE->Prop} {r:CE->Prop} {α:Type} (I:α->Fr) (μ:α->Nat) (y:α) (hle:le (den c) (I y)) (h:∀y,WsemM P q (mkC (I y)) (fun c => ∃z,μ z<μ y/\le (den c) (I z)) x r):WsemM P (.loop q) c n x r:=by
 intro cx hhk hyk hk hkr hM g a w hR m;obtain⟨g0,hR0⟩:=hR.le hle;have hM0:Marks cx.ds (I y).hp:=by have:=hle.2.2;rw[<-this];exact hM
 generalize hSS:(fun (a:Act) (w:World) (m:Nat) => ∃y g ds,μ y=m/\Marks ds (I y).hp/\Rel {cx with ds:=ds} g (mkE (I y)) a w)=S;have hS1:∀{a:Act} {w:World} {m:Nat},(∃y g ds,μ y=m/\Marks ds (I y).hp/\Rel {cx with ds:=ds} g (mkE (I y)) a w)->S a w m:=fun h=>by rw[<-hSS];exact h
 have hS2:∀{a:Act} {w:World} {m:Nat},S a w m->(∃y g ds,μ y=m/\Marks ds (I y).hp/\Rel {cx with ds:=ds} g (mkE (I y)) a w):=fun h=>by rw[<-hSS] at h;exact h
 refine wpIn_loop (fun a w => ∃m,S a w m) (fun a w=>least (S a w)) ⟨μ y,hS1 ⟨y,g0,cx.ds,rfl,hM0,hR0⟩⟩ fun a w hS=>?_;obtain⟨y1,g1,ds1,h3,hM1,h4⟩:=hS2 (yX hS).1;refine Go.wpIn_mono (h y1 {cx with ds:=ds1} hhk hyk hk hkr hM1 g1 a w (by rw[zBB];exact h4) m) fun ex a' w' hp=>?_;cases ex with
 | normal =>
  obtain⟨c',g',ds',⟨z,h5,h6⟩,hM',h7⟩:=hp;obtain⟨g2,h8⟩:=h7.le h6;have hMz:Marks ds' (I z).hp:=by have:=h6.2.2;rw[<-this];exact hM'
  have hz:S a' w' (μ z):=hS1 ⟨z,g2,ds',rfl,hMz,h8⟩;refine⟨⟨_,hz⟩,?_⟩;have:=(yX ⟨_,hz⟩).2 _ hz;omega
 | _=>exact hp
end
end Fp
