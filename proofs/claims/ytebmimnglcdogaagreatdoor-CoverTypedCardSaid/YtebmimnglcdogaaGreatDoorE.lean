/- What is missing is of the columns' types. Plain. No condition. -/
import Derived.Test.YtebmimnglcdogaaGreatDoorD
set_option linter.unusedSimpArgs false
set_option linter.unusedVariables false
namespace Go.Proofs.YtebmimnglcdogaaGreatDoor
open Go Fp
set_option maxRecDepth 10000
set_option maxHeartbeats 8000000
inductive TyM:Nat->Pt->Prop
 | any (t:Nat) (p:Pt) (hf:p.f=1) (hk:p.k=[]):TyM t p
 | int (p:Pt) (hf:p.f=3) (hk:p.k=[]):TyM 0 p
 | con (t:Nat) (p:Pt) (fs:List Nat) (hf:p.f=4) (hs:(p.s,fs)∈zL t) (hl:p.k.length=fs.length) (hk:∀(i:Nat) (x:Pt) u,p.k[i]? = some x->fs[i]? = some u->TyM u x):TyM t p
def TyMs (cs:List Nat) (m:List Pt):Prop:=m.length=cs.length/\∀(i:Nat) p u,m[i]? = some p->cs[i]? = some u->TyM u p
theorem TyMs.cons {t:Nat} {cs:List Nat} {p:Pt} {m:List Pt} (h1:TyM t p) (h2:TyMs cs m):TyMs (t::cs) (p::m):=by
 refine⟨by simp[h2.1],fun i q u hq hu=>?_⟩;cases i with
 | zero=>cases hq;cases hu;exact h1
 | succ i=>exact h2.2 i q u hq hu
theorem TyMs.split {a b:List Nat} {m:List Pt} (h:TyMs (a++b) m):TyMs a (m.take a.length)/\TyMs b (m.drop a.length):=by
 have hl:=h.1;rw[List.length_append] at hl;refine⟨⟨by rw[List.length_take];omega,fun i p u hp hu=>?_⟩,⟨by rw[List.length_drop];omega,fun i p u hp hu=>?_⟩⟩
 ·have hi:=(List.getElem?_eq_some_iff.1 hu).1;rw[List.getElem?_take,if_pos hi] at hp;exact h.2 i p u hp (by rw[List.getElem?_append_left hi];exact hu)
 ·rw[List.getElem?_drop] at hp;exact h.2 (a.length+i) p u hp (by rw[List.getElem?_append_right (by omega),Nat.add_sub_cancel_left];exact hu)
theorem zUS {t:Nat} {l:List Int} (h:∀x∈l,t=0):TyM t (zC1 l):=by
 unfold zC1;split
 ·exact .any _ _ rfl rfl
 ·rename_i hne;obtain⟨x,hx⟩:=List.exists_mem_of_ne_nil l hne;obtain rfl:=h x hx;exact .int _ rfl rfl
theorem zBP:∀(n:Nat) (l:List Rw) (cs:List Nat) (m:List Pt),RowsTy cs n l->miss n l cs.length=some m->TyMs cs m
 | 0,l,cs,m,h,_=>by have:=h.fuel;omega
 | n+1,l,[],m,h,hm=>by
  cases l with
  | nil=>simp[miss] at hm;subst hm;exact⟨rfl,fun i p u hp=>by simp at hp⟩
  | cons r l=>simp[miss] at hm
 | n+1,l,t::cs,m,h,hm=>by
  rcases zDO (a:=0) (t:=t) rfl h.tys with⟨hno,hn4⟩|⟨hks,ht0,ht5,h4⟩
  ·simp only[List.length_cons,miss,hno] at hm;have hmem:∀x∈intsOf 0 l,t=0/\0<=x/\x<1000:=zGO (a:=0) (t:=t) rfl h.tys (fun x hx=>by simp at hx);split at hm
   ·rename_i m' hm';injection hm with hm;subst hm
    exact .cons (zUS fun x hx=>(hmem x hx).1) (zBP n _ cs m' h.none hm')
   ·obtain⟨x,hx,hq⟩:=List.exists_of_findSome?_eq_some hm;obtain⟨m',hm',rfl⟩:=Option.map_eq_some_iff.1 hq;obtain⟨rfl,ht⟩:=hmem x hx;exact .cons (.int _ rfl rfl) (zBP n _ cs m' (h.int rfl) hm')
  ·simp only[List.length_cons,miss,hks] at hm;obtain⟨q,hq,hq'⟩:=List.exists_of_findSome?_eq_some hm;obtain⟨m',hm',rfl⟩:=Option.map_eq_some_iff.1 hq';obtain⟨fs,hfs,hfl⟩:=zMI hq;have hm2:miss n (parts (.con q.1 fs.length) 0 .empty l) (fs++cs).length=some m':=by rw[List.length_append,hfl];exact hm'
   obtain⟨h1,h2⟩:=(zBP n _ (fs++cs) m' (h.con hfs h4) hm2).split;rw[<-hfl];exact .cons (.con t _ fs rfl hfs h1.1 h1.2) h2
theorem zON {t:Nat} {l:List Pt} (h:PatsOk t l) {p:Pt} (hm:zBY l=some [p]):TyM t p/\p.sz<=300:=by
 have h1:=zBP 300 (yC 0 l) [t] [p] h.all hm;have h2:=zF8 _ _ _ _ hm;simp only[szL] at h2;exact⟨h1.2 0 p t rfl rfl,by omega⟩
theorem zQW {w:Nat} {s:ByteArray} {fs:List Nat} (h:(s,fs)∈zL w):∃(d:DT) (k:Nat) (fts:List Tp),zD Tryz.prog yS [cAV,.lit (.string s)] (.tup [eD d,.lit (.int .i64 (k:Nat)),.sb true])/\d.2.2.2.2[k]? = some (s,fts)/\fts.length=fs.length/\d.2.2.2.2.length<=3 /\
  ((d.2.2.1=[]/\wTy w = .con d.1/\∀(i:Nat) t u,fts[i]? = some t->fs[i]? = some u->t=wTy u)∨(d.2.2.1=[sa]/\∃a,wTy w = .app (.con d.1) a/\(a = .con zE7∨a = .con zBM)/\∀(i:Nat) t u,fts[i]? = some t->fs[i]? = some u->(t = .var sa/\a=wTy u)∨(t = .app (.con sL) (.var sa)/\.app (.con sL) a=wTy u))):=by
 have mk:∀(j:Nat) (q:ByteArray×Nat×Nat) (hj:atT[j]? = some q),zD Tryz.prog yS [cAV,.lit (.string q.1)] (.tup [eD (wTab5[q.2.1]'(zGM hj)),.lit (.int .i64 (q.2.2:Nat)),.sb true]):=fun j q hj=>zTV hj;have none0:∀{α:Type} {P:α->Prop} (i:Nat) (t:α),([]:List α)[i]? = some t->P t:=fun i t h=>by simp at h
 match w with
 | 0=>simp[zL] at h
 | 1 =>
  simp[zL] at h;rcases h with⟨rfl,rfl⟩|⟨rfl,rfl⟩
  ·exact⟨_,_,[],mk 0 _ rfl,rfl,rfl,by decide,.inl ⟨rfl,rfl,fun i t u h=>by simp at h⟩⟩
  ·exact⟨_,_,[],mk 1 _ rfl,rfl,rfl,by decide,.inl ⟨rfl,rfl,fun i t u h=>by simp at h⟩⟩
 | 2 =>
  simp[zL] at h;rcases h with⟨rfl,rfl⟩|⟨rfl,rfl⟩
  ·exact⟨_,_,[],mk 2 _ rfl,rfl,rfl,by decide,.inr ⟨rfl,.con zE7,rfl,.inl rfl,fun i t u h=>by simp at h⟩⟩
  ·refine⟨_,_,_,mk 3 _ rfl,rfl,rfl,by decide,.inr ⟨rfl,.con zE7,rfl,.inl rfl,fun i t u ht hu=>?_⟩⟩
   match i with
   | 0=>cases ht;cases hu;exact .inl ⟨rfl,rfl⟩
   | 1=>cases ht;cases hu;exact .inr ⟨rfl,rfl⟩
   | i+2=>simp at hu
 | 3 =>
  simp[zL] at h;rcases h with⟨rfl,rfl⟩|⟨rfl,rfl⟩|⟨rfl,rfl⟩
  ·exact⟨_,_,[],mk 4 _ rfl,rfl,rfl,by decide,.inl ⟨rfl,rfl,fun i t u h=>by simp at h⟩⟩
  ·refine⟨_,_,_,mk 5 _ rfl,rfl,rfl,by decide,.inl ⟨rfl,rfl,fun i t u ht hu=>?_⟩⟩
   match i with
   | 0=>cases ht;cases hu;rfl
   | 1=>cases ht;cases hu;rfl
   | i+2=>simp at hu
  ·refine⟨_,_,_,mk 6 _ rfl,rfl,rfl,by decide,.inl ⟨rfl,rfl,fun i t u ht hu=>?_⟩⟩
   match i with
   | 0=>cases ht;cases hu;rfl
   | i+1=>simp at hu
 | 4 =>
  simp[zL] at h;rcases h with⟨rfl,rfl⟩|⟨rfl,rfl⟩
  ·exact⟨_,_,[],mk 2 _ rfl,rfl,rfl,by decide,.inr ⟨rfl,.con zBM,rfl,.inr rfl,fun i t u h=>by simp at h⟩⟩
  ·refine⟨_,_,_,mk 3 _ rfl,rfl,rfl,by decide,.inr ⟨rfl,.con zBM,rfl,.inr rfl,fun i t u ht hu=>?_⟩⟩
   match i with
   | 0=>cases ht;cases hu;exact .inl ⟨rfl,rfl⟩
   | 1=>cases ht;cases hu;exact .inr ⟨rfl,rfl⟩
   | i+2=>simp at hu
 | n+5=>simp[zL] at h
end Go.Proofs.YtebmimnglcdogaaGreatDoor
