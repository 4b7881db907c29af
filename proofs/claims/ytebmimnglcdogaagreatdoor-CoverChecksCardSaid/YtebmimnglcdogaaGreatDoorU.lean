/- slices.Backward over names: the iterator. No condition but on lengths. -/
import Derived.Test.YtebmimnglcdogaaGreatDoorI
import Derived.RangeFuncNested
import Derived.RangeFuncBox
import Derived.RangeFuncLeaves
import Derived.Shelf.Abstract
import Derived.OwnWalkIn
import Derived.TacticsInMore
import Derived.LoopNIn
import Derived.LoopIn
set_option linter.unusedSimpArgs false
set_option linter.unusedVariables false
set_option maxHeartbeats 8000000
namespace Go.Proofs.YtebmimnglcdogaaGreatDoor.Ck
open Go Go.RowKit Go.Proofs Go.Shelf
set_option maxRecDepth 100000
attribute [local go_sem] Oper.semAt_some
def zU8 (us:Nat->Value) (k:Nat):Value := .agg #[us (k*5),us (k*5+1),us (k*5+2),us (k*5+3),us (k*5+4)]
abbrev Pl (len:Nat):={k:Nat // k<len}
def back (len k:Nat):List (Pl len):=((List.range len).reverse.take k).attach.map fun x=>⟨x.1,by have:=List.mem_of_mem_take x.2;simpa using this⟩
theorem zMV {len k:Nat} (h:k<len):back len (k+1)=back len k++[⟨len-1-k,by omega⟩]:=by
 refine List.map_inj_right (f:=fun x:Pl len=>x.1) (fun a b e=>Subtype.ext e) |>.1 ?_;have e:∀k,(back len k).map (fun x=>x.1)=(List.range len).reverse.take k:=fun k=>by
  unfold back;rw[List.map_map];show (List.map Subtype.val _)=_;rw[List.attach_map_subtype_val]
 rw[List.map_append,e,e,List.take_succ_eq_append_getElem (by simpa using h)];simp[List.getElem_reverse]
theorem zPS {len k:Nat} (h:k<=len):(back len k).length=k:=by simp[back];omega
theorem zHC (len:Nat):back len 0=[]:=by simp[back]
theorem zXK (F:Fence) (n:Nat) (h7:F.fn 143) (hro:F.round=none) (hn:1<=n) (l Bs n₀ b off len cap:Nat) (us:Nat->Value) (hreach:len<1000000000) (hb:b<n₀) (J Jx:List (Pl len)->World->Prop)
  (hY:∀pre x W,J pre W->pre.length<len->YieldAt F (n-1) Tryz.prog l #[.int .i64 (x.1:Nat),zU8 us x.1] W fun e W' =>
   (e = .returned (.bool true)/\J (pre++[x]) W'/\Below n₀ W W')∨(e = .returned (.bool false)/\Jx (pre++[x]) W'))
  (W:World) (hBs:W.cell? ⟨Bs,0,none⟩=some (.slice (some ⟨b,off,none⟩) len cap)) (hBn:Bs<n₀) (hc:∀j,j<len*5->W.cell? ⟨b,off+j,none⟩=some (us j)) (h0:J [] W) :
  CallsIn F n Tryz.prog 143 #[.func (.yield l) #[] #[],.pointer (some ⟨Bs,0,none⟩)] W fun e W'=>(∃v,e = .returned v) /\
   ((∃ys,ys=back len len/\J ys W')∨(∃pre,(∃k,k<=len/\pre=back len k)/\Jx pre W')):=by
 refine callsIn_of_wp Tryz.func143 rfl h7 ?_ hro;simp only[Tryz.ntmps143,List.size_toArray,List.length_cons,List.length_nil,Nat.reduceAdd,Nat.reduceSub,Array.replicate_succ,Array.replicate_zero,List.push_toArray,List.append_toArray,List.nil_append,List.cons_append]
 gi_wp2
 gi_loopw [3] (fun i wr => ∃k:Nat,k<=len/\i = .int .i64 ((len:Int)-1-k)/\J (back len k) wr/\Below n₀ W wr)
  (fun i _=>(intOf i+1).toNat)
 case atStart=>exact⟨0,Nat.zero_le _,by simp,by rw[zHC];exact h0,Below.refl _ _⟩
 case round =>
  obtain⟨k,hk,rfl,hJs,hnx⟩:=hrel;by_cases hlt:k<len
  ·obtain⟨fn,tmps,assign,body,hy,hR⟩:=hY _ ⟨len-1-k,by omega⟩ wr hJs (by rw[zPS hk];exact hlt);have hBs':=(hnx.cell (p:=⟨Bs,0,none⟩) hBn).trans hBs;have hcx:∀j,j<5->wr.cell? ⟨b,off+(len-1-k)*5+j,none⟩=some (us ((len-1-k)*5+j)):=fun j h=>(hnx.cell (p:=⟨b,off+(len-1-k)*5+j,none⟩) hb).trans (by rw[Nat.add_assoc];exact hc _ (by omega));have c0:wr.cell? ⟨b,off+(len-1-k)*5,none⟩=some (us ((len-1-k)*5)):=hcx 0 (by omega);have c1:=hcx 1 (by omega);have c2:=hcx 2 (by omega);have c3:=hcx 3 (by omega);have c4:=hcx 4 (by omega);have e1:((len:Int)-1-k)=((len-1-k:Nat):Int):=by omega
   rw[e1];simp only[zU8] at hy
   gi_wp2
   refine hR.mono ?_;rintro e W3 (⟨rfl,hJ3,hk3⟩|⟨rfl,hJx3⟩)
   ·gi_wp2
    go_roundw
    case rel=>exact⟨k+1,by omega,by simp;omega,by rw[zMV hlt];exact hJ3,hnx.trans hk3⟩
    case measure=>simp[intOf]
   ·gi_wp2
    refine bodyPost_ret (results_none rfl _ _ _) rfl ?_;exact⟨⟨_,rfl⟩,.inr ⟨_,⟨k+1,by omega,(zMV hlt).symm⟩,hJx3⟩⟩
  ·obtain rfl:k=len:=by omega
   gi_wp2
   go_end0
   exact⟨⟨_,rfl⟩,.inl ⟨_,rfl,hJs⟩⟩
theorem zNV (F:Fence) (n:Nat) (h7:F.fn 143) (hro:F.round=none) (l Bs cap:Nat) (a:Option Addr) (J:List (Pl 0)->World->Prop) (W:World) (hBs:W.cell? ⟨Bs,0,none⟩=some (.slice a 0 cap)) (h0:J [] W) :
  CallsIn F n Tryz.prog 143 #[.func (.yield l) #[] #[],.pointer (some ⟨Bs,0,none⟩)] W fun e W'=>(∃v,e = .returned v)/\J [] W':=by
 refine callsIn_of_wp Tryz.func143 rfl h7 ?_ hro;simp only[Tryz.ntmps143,List.size_toArray,List.length_cons,List.length_nil,Nat.reduceAdd,Nat.reduceSub,Array.replicate_succ,Array.replicate_zero,List.push_toArray,List.append_toArray,List.nil_append,List.cons_append]
 gi_wp2
 gi_loopw [3] (fun i wr=>i = .int .i64 (-1)/\J [] wr) (fun _ _=>0)
 case atStart=>exact⟨rfl,h0⟩
 case round =>
  obtain⟨rfl,hJs⟩:=hrel
  gi_wp2
  go_end0
  exact⟨⟨_,rfl⟩,hJs⟩
theorem z08 (F:Fence) (n:Nat) (h5:F.fn 123) (hro:F.round=none) (a:Option Addr) (len cap:Nat) (w:World) :
  CallsIn F n Tryz.prog 123 #[.slice a len cap] w fun e w'=>e = .returned (.func (.func 143) #[] #[.pointer (some ⟨w.heap.size,0,none⟩)])/\w'=w.alloc (.cells #[.slice a len cap] 116):=by
 refine callsIn_of_wp Tryz.func123 rfl h5 ?_ hro;simp only[Tryz.ntmps123,List.size_toArray,List.length_cons,List.length_nil,Nat.reduceAdd,Nat.reduceSub,Array.replicate_succ,Array.replicate_zero,List.push_toArray,List.append_toArray,List.nil_append,List.cons_append]
 gi_wp2
 go_ret
 exact⟨rfl,rfl⟩
def NmsAt (n₀:Nat) (W:World) (sv:Value) (len:Nat) (us:Nat->Value):Prop :=
 (len=0/\∃a cap,sv = .slice a 0 cap)∨∃b off cap,sv = .slice (some ⟨b,off,none⟩) len cap/\b<n₀/\∀j,j<len*5->W.cell? ⟨b,off+j,none⟩=some (us j)
theorem NmsAt.below {n₀:Nat} {A B:World} (h:Below n₀ A B) {sv:Value} {len:Nat} {us:Nat->Value}:NmsAt n₀ A sv len us->NmsAt n₀ B sv len us
 | .inl e => .inl e
 | .inr ⟨b,off,cap,e,hb,hc⟩ => .inr ⟨b,off,cap,e,hb,fun j hj=>(h.cell (p:=⟨b,off+j,none⟩) hb).trans (hc j hj)⟩
theorem zSF (F:Fence) (n:Nat) (h7:F.fn 143) (hro:F.round=none) (hn:1<=n) (Bs n₀:Nat) (sv:Value) (len:Nat) (us:Nat->Value) (hreach:len<1000000000) (w:World) (hBs:Bs<w.heap.size) (hBn:Bs<n₀) (hn₀:n₀<=w.heap.size)
  (hc:w.cell? ⟨Bs,0,none⟩=some sv) (hI:NmsAt n₀ w sv len us) :
  SeqStopsK F n Tryz.prog 143 #[.pointer (some ⟨Bs,0,none⟩)] (fun x:Pl len => #[Value.int .i64 (x.1:Nat),zU8 us x.1]) (Below n₀) (fun ys=>ys=back len len)
   (fun pre => ∃k,k<=len/\pre=back len k) len w:=fun l J Jx W hW _ _ hY h0=>by
 have hc':=(hW.cell (p:=⟨Bs,0,none⟩) hBs).trans hc;rcases hI.below (hW.mono hn₀) with⟨rfl,a,cap,rfl⟩|⟨b,off,cap,rfl,hb,hcs⟩
 ·exact (zNV F n h7 hro l Bs cap a J W hc' h0).mono fun e W' ⟨he,hj⟩=>⟨he,.inl ⟨_,by rw[zHC],hj⟩⟩
 ·exact zXK F n h7 hro hn l Bs n₀ b off len cap us hreach hb J Jx hY W hc' hBn hcs h0
end Go.Proofs.YtebmimnglcdogaaGreatDoor.Ck
