/- The closure that compiles: a column of integers. No condition. -/
import Derived.Test.YtefdahofpjmnfaaDoorH
import Derived.Test.YtefdahofpjmnfaaDoorFpI
set_option linter.unusedSimpArgs false
set_option linter.unusedVariables false
namespace Go.Proofs.YtefdahofpjmnfaaDoor
open Go Fp
set_option maxRecDepth 10000
set_option maxHeartbeats 16000000
set_option linter.unusedVariables false

theorem wrap0 : (0 : Int) = ((0 : Nat) : Int) := rfl
theorem made_int (to : Tp) (b : Nat → Int) (b1 b2 b3 : Nat) (n : Nat) (r : Rw) (l : List Rw) (ns : List ByteArray) (a : Nat) (p : Pt) (v : ByteArray) (is : List Int)
    (hp : r.ps[a]? = some p) (hv : ns[a]? = some v) (hsh : ShutAt r.ps a) (h4 : p.f ≠ 4) (hn : ns.length = r.ps.length) (hl : r.ps.length < 10000) (hll : (r :: l).length < 10000) (hvs : v.size ≤ 100000)
    (hC : ACall Tryd.prog n_cover_ints [.sl (eRws 3 b (r :: l)), .lit (.int .i64 (a : Nat))] (.sl (eIs is))) (his : is.length < 10000) (hie : intsOf a (r :: l) = is)
    (hcol : ∀ x ∈ r :: l, colOk a x) 
    (hM : ∀ x ∈ is, MadeOk to b b1 b2 b3 n (parts (.int x) a v (r :: l)) (putN ns a [])) (hN : MadeOk to b b1 b2 b3 n (parts .none a v (r :: l)) (putN ns a [])) : MadeOk to b b1 b2 b3 (n + 1) (r :: l) ns := by
  have hI := indexShut_ok r.ps a hl hsh
  have hva := var_ok v
  have hal : a < ns.length := (List.getElem?_eq_some_iff.1 hv).1
  have hsg : (eSs ns)[a]? = some (.lit (.string v)) := by simp [eSs, hv]
  have hpg : (ePts r.ps)[a]? = some (ePt p) := by simp [ePts, hp]
  have hF := fun (K : Kn) (hm : K.many ≤ 2) => forms_ok 3 b K (r :: l) a v hcol hm hll
  have hix : shutIx r.ps = some a := by
    rcases hsh with ⟨k, hk, h1, h2, h3⟩ | ⟨h, _⟩
    · have : a = k := by omega
      subst this; exact shutIx_some h1 h2 h3
    · omega
  have hmd : made b (n + 1) (r :: l) ns = .cas v (is.map (fun x => (2, x, .empty, [])) ++ [(3, 0, .empty, [])]) (is.map (fun x => made b n (parts (.int x) a v (r :: l)) (putN ns a [])) ++ [made b n (parts .none a v (r :: l)) (putN ns a [])]) := by
    rw [made, hix]; simp only [hp, hv, if_neg h4, hie]
  unfold MadeOk
  rw [hmd]
  have hW := with_ok ns [] a hal (by omega) (by simp)
  generalize hR : r :: l = rows at *
  have hR0 : rows[0]? = some r := by rw [← hR]; rfl
  have hRw : (eRws 3 b rows)[0]? = some (eRw 3 b r) := by simp [eRws, hR0]
  have hRl : rows.length ≠ 0 := by rw [← hR]; simp
  refine callsG_of_wcx (first := []) (cap := [ptrV b1, ptrV b2, ptrV b3]) ttok mixed Tryd.func26 rfl (by rfl) rfl (Nat.le_of_ble_eq_true rfl) (by kernel_rfl) ?_
  refine ⟨fun h => ?_, fun _ => ?_⟩
  · have h := of_decide_eq_true h; rw [lenRw] at h; omega
  refine ⟨_, by omega, hRw, rfl, ?_⟩
  refine .inl ⟨_, hI, ?_⟩
  refine ⟨fun h => by have h := of_decide_eq_true h; omega, fun _ => ?_⟩
  refine ⟨_, by omega, hsg, rfl, ?_⟩
  refine .inl ⟨_, hva, ?_⟩
  refine ⟨0, _, rfl, Nat.le_refl 4, ?_⟩
  refine ⟨by kernel_rfl, ?_⟩
  refine .inl ?_
  refine ⟨_, by omega, hpg, rfl, ?_⟩
  refine ⟨fun hbs => ?_, fun hbs => ?_⟩ <;> first | (exfalso; revert hbs; (simp [h4]); done) | skip
  refine .inl ⟨_, hC, ?_⟩
  refine ⟨{k : Nat // k ≤ is.length}, fun k => { vs := [(0, .v (.sl (eRws 3 b rows))), (2, .v (.lit (ptrV b1))), (3, .v (.lit (ptrV b2))), (4, .v (.lit (ptrV b3))), (7, .box 0 zC), (9, .v (.ptr [.lit (.int .i64 (a : Nat))])), (13, .v (.lit (.string v))),
      (14, .box 0 (cC to v ((is.take k.1).map fun x => eAlt to (2, x, .empty, []) (made b n (parts (.int x) a v rows) (putN ns a []))))), (15, .v (.fn (.func n_cover_Compile_1_2) [] [.ptr [.sl (eSs ns)], .ptr [.lit (.int .i64 (a : Nat))]])),
      (143, .v (.sl (eIs is))), (144, sv (is.length : Nat)), (145, sv (k.1 : Nat))], ow := [(14, 9, 15)], hp := hpM to b1 b2 b3 },
    fun k => is.length - k.1, ⟨0, Nat.zero_le _⟩, ⟨⟨rfl, rfl, rfl, rfl, rfl, rfl, rfl, rfl, rfl, rfl, svc (by rw [lenI]), rfl, trivial⟩, ⟨trivial, trivial⟩, rfl⟩, ?_⟩
  rintro ⟨k, hk⟩
  refine ⟨fun h => ?_, fun h => ?_⟩
  · have h : k < is.length := by have h := of_decide_eq_true h; simp only at h; omega
    have hqm := List.getElem_mem h
    have hqg := getI h
    have hMk := hM _ hqm
    have htk := List.take_succ_eq_append_getElem h
    generalize is[k] = x at *
    have hO := ofInt_ok x
    have hFq := hF (.int x) (Nat.zero_le 2)
    refine ⟨_, by omega, hqg, rfl, ?_⟩
    refine ⟨2, _, _, rfl, rfl, ?_⟩
    refine .inl ⟨_, hO, ?_⟩
    refine .inl ⟨_, hFq, ?_⟩
    refine .inl ⟨_, hW, ?_⟩
    refine .inr (.inr (.inl ⟨[0, 1, 2], hpM to b1 b2 b3, _, rfl, by decide, hMk, ?_⟩))
    refine ⟨by simp; omega, uniA to (fun x : Int => (2, x, .empty, [])) (fun x => made b n (parts (.int x) a v rows) (putN ns a [])) _, uni1 rfl, ?_⟩
    refine ⟨by kernel_rfl, ?_⟩
    refine ⟨⟨k + 1, h⟩, by simp; omega, ⟨rfl, rfl, rfl, rfl, rfl, rfl, rfl, ?_, rfl, rfl, rfl, svc (wrap_succ (k := k) (by omega)), trivial⟩, ⟨rfl, trivial⟩, rfl⟩
    show SV.box 0 (cC to v (((is.take k).map fun x => eAlt to (2, x, .empty, []) (made b n (parts (.int x) a v rows) (putN ns a []))) ++ [eAlt to (2, x, .empty, []) (made b n (parts (.int x) a v rows) (putN ns a []))])) = _
    rw [htk, List.map_append]; rfl
  · have h : k = is.length := by have h := of_decide_eq_false h; simp only at h; omega
    subst h
    have hFq := hF .none (Nat.zero_le 2)
    rw [eCr_cas, altsL_app to _ _ _ _ (by simp), altsL_map, List.take_length, altsL_cons, altsL_nil]
    refine ⟨2, _, _, rfl, rfl, ?_⟩
    refine .inl ⟨_, hFq, ?_⟩
    refine .inl ⟨_, hW, ?_⟩
    refine .inr (.inr (.inl ⟨[0, 1, 2], hpM to b1 b2 b3, _, rfl, by decide, hN, ?_⟩))
    refine ⟨by simp; omega, uniA to (fun x : Int => (2, x, .empty, [])) (fun x => made b n (parts (.int x) a v rows) (putN ns a [])) _, uni1 rfl, ?_⟩
    refine ⟨by kernel_rfl, ?_⟩
    exact ⟨rfl, rfl, rfl⟩
end Go.Proofs.YtefdahofpjmnfaaDoor

namespace Go.Proofs.YtefdahofpjmnfaaDoor
open Go Fp
set_option maxRecDepth 10000
set_option maxHeartbeats 16000000
set_option linter.unusedVariables false

theorem putN_len (ns own : List ByteArray) (a : Nat) (h : a < ns.length) : (putN ns a own).length = a + own.length + (ns.length - (a + 1)) := by
  simp [putN]; omega
theorem putN_mem {ns own : List ByteArray} {a : Nat} {s : ByteArray} (h : s ∈ putN ns a own) : s ∈ ns ∨ s ∈ own := by
  unfold putN at h
  rcases List.mem_append.1 h with h | h
  · exact .inl (List.mem_of_mem_take h)
  · rcases List.mem_append.1 h with h | h
    · exact .inr h
    · exact .inl (List.mem_of_mem_drop h)
theorem kidsN_sz {v s : ByteArray} {n : Nat} (h : s ∈ kidsN v n) : s.size = v.size + 2 := by
  obtain ⟨i, _, rfl⟩ := List.mem_map.1 h
  unfold kidN
  rw [ByteArray.size_append, ByteArray.size_append]; rfl

theorem made_ok (to : Tp) (b : Nat → Int) (b1 b2 b3 : Nat) : ∀ (n : Nat) (l : List Rw) (cs : List Nat) (ns : List ByteArray), RowsTy cs n l → ns.length = cs.length → (∀ s ∈ ns, s.size + 2 * n ≤ 100000) → MadeOk to b b1 b2 b3 n l ns := by
  intro n
  induction n with
  | zero => intro l cs ns h; have := h.fuel; omega
  | succ n ih =>
    intro l cs ns h hn hs
    have hcap := h.cap
    have hfu := h.fuel
    cases l with
    | nil => exact made_fail to b b1 b2 b3 n ns
    | cons r l =>
      have hrow := h.row r (by simp)
      have hrt := hrow.ty
      have hpl := hrt.len
      have hlost := hrow.lost
      obtain ⟨i, hi⟩ := shutAt_ex r.ps
      have hi0 := hi
      rcases hi with ⟨k, rfl, hk, h1, h2⟩ | ⟨rfl, ho⟩
      · obtain ⟨t, ha⟩ : ∃ t, cs[k]? = some t := ⟨_, List.getElem?_eq_getElem (by omega)⟩
        obtain ⟨p, hp, hty⟩ := hrt.get ha
        have hpk : p = r.ps[k] := by rw [List.getElem?_eq_getElem hk] at hp; injection hp with hp; exact hp.symm
        have hop : p.opn = false := by rw [hpk]; exact h1
        obtain ⟨v, hv⟩ : ∃ v, ns[k]? = some v := ⟨_, List.getElem?_eq_getElem (by omega)⟩
        have hvm := hs v (List.mem_of_getElem? hv)
        have hcol : ∀ x ∈ r :: l, colOk k x := fun x hx => (h.row x hx).col ha (by omega)
        have hsz : ∀ own, (∀ s ∈ own, s.size = v.size + 2) → ∀ s ∈ putN ns k own, s.size + 2 * n ≤ 100000 := fun own ho s hm => by
          rcases putN_mem hm with hm | hm
          · have := hs s hm; omega
          · have := ho s hm; omega
        have less : ∀ K, Fit t K [] → MadeOk to b b1 b2 b3 n (parts K k v (r :: l)) (putN ns k []) := fun K hK =>
          ih _ _ _ (h.lessA ha hK) (by rw [putN_len _ _ _ (by omega)]; simp; omega) (hsz [] (fun s hm => by simp at hm))
        have h43 : p.f = 4 ∨ p.f = 3 := by
          have := hty.form.1
          simp only [Pt.opn, Bool.or_eq_false_iff, decide_eq_false_iff_not] at hop
          omega
        by_cases h4 : p.f = 4
        · rcases colCons_ty ha h.tys with ⟨_, hno⟩ | ⟨hks, ht0, ht5, hh⟩
          · exact absurd h4 (hno r (by simp) p hp)
          · have hC := cons_ok 3 b (r :: l) cs k t ha h.tys (by omega) h.len
            rw [hks] at hC
            refine made_con to b b1 b2 b3 n r l ns k p v (consT t) hp hv hi0 h4 (by omega) (by omega) h.len (by omega) hC (consT_len t) (fun q hq => ?_) hcol hks (fun q hq => ?_)
            · obtain ⟨fs, hfs, hfl⟩ := consT_at hq
              have : fs.length ≤ 2 := (wCons_fs hfs).1; omega
            · obtain ⟨fs, hfs, hfl⟩ := consT_at hq
              have hT := h.conA (y := v) ha hfs ⟨r, by simp, p, hp, h4⟩
              rw [hfl] at hT
              exact ih _ _ _ hT (by rw [putN_len _ _ _ (by omega), kidsN_len]; simp; omega) (hsz _ (fun s hm => kidsN_sz hm))
        · have h3 : p.f = 3 := by omega
          obtain ⟨ht, _, _⟩ := ty_int hty h3
          subst ht
          have hil : (intsOf k (r :: l)).length < 10000 := by have := ints_le k (r :: l) []; have := h.len; unfold intsOf; simp at *; omega
          exact made_int to b b1 b2 b3 n r l ns k p v _ hp hv hi0 h4 (by omega) (by omega) h.len (by omega) (ints_ok 3 b (r :: l) k hcol h.len) hil rfl hcol (fun x _ => less _ (.int x)) (less _ (.none 0))
      · exact made_leaf to b b1 b2 b3 n r l ns ho (by omega) (by omega) (by omega)
end Go.Proofs.YtefdahofpjmnfaaDoor

namespace Go.Proofs.YtefdahofpjmnfaaDoor
open Go Fp
set_option maxRecDepth 10000
set_option maxHeartbeats 16000000
set_option linter.unusedVariables false

theorem setAt_mid {A O B N : List AV} (h : O.length = N.length) : setAt (A ++ (O ++ B)) A.length N = A ++ (N ++ B) := by
  unfold setAt
  rw [List.take_left, ← List.drop_drop, List.drop_left, ← h, List.drop_left]
def mixR (b : Nat → Int) (rows : List Rw) (k : Nat) : List AV := eRws 3 b (rows.take k) ++ eRws 0 (fun _ => 0) (rows.drop k)
theorem mix_set (b : Nat → Int) (rows : List Rw) (k : Nat) (h : k < rows.length) (zs : List AV) :
    setAt ((mixR b rows k).flatMap AV.cells ++ zs) (0 + k * 12 + 2) (eCi (b rows[k].body)).cells = (mixR b rows (k + 1)).flatMap AV.cells ++ zs := by
  have e1 : rows.drop k = rows[k] :: rows.drop (k + 1) := List.drop_eq_getElem_cons h
  have e2 := List.take_succ_eq_append_getElem h
  have hA : ((eRws 3 b (rows.take k)).flatMap AV.cells ++ [AV.sl (ePts rows[k].ps), .sl (eLs rows[k].lost)]).length = 0 + k * 12 + 2 := by
    rw [List.length_append, flatMap_len (uniRw _ _ _), lenRw, List.length_take]; simp; omega
  rw [← hA]
  have e3 : (mixR b rows k).flatMap AV.cells ++ zs = ((eRws 3 b (rows.take k)).flatMap AV.cells ++ [AV.sl (ePts rows[k].ps), .sl (eLs rows[k].lost)]) ++ ((eCi 0).cells.set 0 (.lit (.int .i64 0)) ++ ((eRws 0 (fun _ => 0) (rows.drop (k + 1))).flatMap AV.cells ++ zs)) := by
    unfold mixR; rw [e1]
    simp only [eRws, List.map_cons, List.flatMap_append, List.flatMap_cons, List.append_assoc]
    rfl
  rw [e3]
  refine Eq.trans (setAt_mid (N := (eCi (b rows[k].body)).cells) rfl) ?_
  unfold mixR; rw [e2]
  simp only [eRws, List.map_cons, List.map_append, List.map_nil, List.flatMap_append, List.flatMap_cons, List.flatMap_nil, List.append_assoc, List.append_nil]
  rfl
theorem compile_nil (to t0 : Tp) (s : ByteArray) (b : Nat → Int) (bs : List Int) : ACall Tryd.prog n_cover_Compile [cAV, .lit (.string s), eTy t0, .sl (ePts []), .sl (eCis bs), eTy to] (eCr to (made b 300 (rowsFrom 0 []) [s])) := by
  have hR := rows_ok [] (by simp)
  have hf : ∀ b1 b2 b3, MadeOk to b b1 b2 b3 300 [] [s] := fun b1 b2 b3 => made_fail to b b1 b2 b3 299 [s]
  refine acall_of_wcx ttok mixed Tryd.func8 rfl (by rfl) (Nat.le_of_ble_eq_true rfl) (by kernel_rfl) ?_
  refine .inl ⟨_, hR, ?_⟩
  refine ⟨Unit, fun _ => { vs := [(1, .v (.lit (.string s))), (6, .box 0 cAV), (11, .box 0 (eTy to)), (12, .box 0 zC), (13, .v (.sl [])), (19, sv 0), (20, sv 0)] }, fun _ => 0, (), ⟨⟨rfl, rfl, rfl, rfl, rfl, rfl, rfl, trivial⟩, trivial, rfl⟩, ?_⟩
  rintro ⟨⟩
  refine ⟨fun h => (by cases h), fun _ => ?_⟩
  refine .inr ⟨rfl, fun b1 => ⟨rfl, fun b2 => ⟨rfl, fun b3 => ?_⟩⟩⟩
  have hM := hf b1 b2 b3
  refine ⟨rfl, 2, _, rfl, Nat.le_refl 1, ?_⟩
  refine ⟨2, _, _, rfl, rfl, ?_⟩
  refine .inr (.inr (.inl ⟨[0, 1, 2], hpM to b1 b2 b3, _, rfl, by decide, hM, ?_⟩))
  exact rfl
theorem compile_cons (to t0 : Tp) (s : ByteArray) (hs : s.size ≤ 1) (t : Nat) (l : List Pt) (h : PatsOk t l) (b : Nat → Int) (bs : List Int) (hne : l ≠ []) (hbs : bs.length = l.length) (hb : ∀ k x, bs[k]? = some x → b k = x) :
    ACall Tryd.prog n_cover_Compile [cAV, .lit (.string s), eTy t0, .sl (ePts l), .sl (eCis bs), eTy to] (eCr to (made b 300 (rowsFrom 0 l) [s])) := by
  have hl := h.2.1
  have hR := rowsH_ok l (by omega)
  refine acall_of_wsem0 ttok mixed Tryd.func8 rfl (by rfl) (Nat.le_of_ble_eq_true rfl) (by kernel_rfl) ?_
  refine Wsem0.seq ttok mixed ?_
  refine Wsem0.seq ttok mixed ?_
  refine .inr (.inr (.inr (.inr (.inr (.inl ⟨[], [], [], _, rfl, List.nodup_nil, rfl, hR, ?_⟩)))))
  intro r w hout hp
  rcases hp with ⟨he, _⟩ | ⟨bb, cap, zs, rfl, rfl, rfl, hcap, hz⟩
  · exfalso; apply hne; cases l with
    | nil => rfl
    | cons p l => simp [eRws, rowsFrom] at he
  have hrl := rowsFrom_len l 0
  have hrows : (rowsFrom 0 l).length < 10000 := by omega
  have hbody : ∀ k (hk : k < (rowsFrom 0 l).length), bs[k]? = some (b (rowsFrom 0 l)[k].body) := fun k hk => by
    have h1 := rowsFrom_get l 0 k
    rw [List.getElem?_eq_getElem hk, List.getElem?_eq_getElem (by omega)] at h1
    injection h1 with h1
    rw [h1, Nat.zero_add]
    have := List.getElem?_eq_getElem (l := bs) (i := k) (by omega)
    rw [this, hb k _ this]
  have hmd := h.all
  rw [lenRw] at hcap hz ⊢
  have hmix0 : eRws 0 (fun _ => 0) (rowsFrom 0 l) = mixR b (rowsFrom 0 l) 0 := by simp [mixR, eRws]
  rw [hmix0]
  generalize rowsFrom 0 l = rows at *
  refine Wsem0.seq ttok mixed ?_
  refine ⟨{k : Nat // k ≤ rows.length}, fun k => { vs := [(1, .v (.lit (.string s))), (4, .v (.sl (eCis bs))), (6, .box 0 cAV), (11, .box 0 (eTy to)), (12, .box 0 zC), (13, .v (.lit (.slice (some ⟨bb, 0, none⟩) rows.length cap))), (19, sv (rows.length : Nat)), (20, sv (k.1 : Nat))], hp := [(bb, HO.cells ((mixR b rows k.1).flatMap AV.cells ++ zs))] },
    fun k => rows.length - k.1, ⟨0, Nat.zero_le _⟩, ⟨⟨rfl, rfl, rfl, rfl, rfl, rfl, rfl, rfl, trivial⟩, trivial, rfl⟩, ?_⟩
  rintro ⟨k, hk⟩
  refine ⟨fun h' => ?_, fun h' => ?_⟩
  · have h' : k < rows.length := by have h' := of_decide_eq_true h'; simp only at h'; omega
    have hg : (eCis bs)[k]? = some (eCi (b rows[k].body)) := by simp [eCis, hbody k h']
    refine ⟨_, by omega, hg, rfl, ?_⟩
    refine ⟨by omega, by show (k : Int) < _; omega, ?_⟩
    have hmx : ((mixR b rows k).flatMap AV.cells).length = rows.length * 12 := by
      unfold mixR
      rw [flatMap_len (esz := 12) (uniApp (uniRw _ _ _) (uniRw _ _ _))]
      rw [List.length_append, lenRw, lenRw, List.length_take, List.length_drop]; congr 1; omega
    refine ⟨rfl, 0, _, rfl, by rw [List.length_append, hmx]; show 0 + k * 12 + 2 + 10 ≤ _; omega, ?_⟩
    refine ⟨⟨k + 1, h'⟩, by simp; omega, ⟨rfl, rfl, rfl, rfl, rfl, rfl, rfl, svc (wrap_succ (k := k) (by omega)), trivial⟩, trivial, ?_⟩
    have hset := mix_set b rows k h' zs
    exact congrArg (fun x => [(bb, HO.cells x)]) hset
  · have h' : k = rows.length := by have h' := of_decide_eq_false h'; simp only at h'; omega
    subst h'
    have hmE : mixR b rows rows.length = eRws 3 b rows := by simp [mixR, eRws]
    refine Wsem0.freeze 13 12 (b := bb) (cap := cap) (L := eRws 3 b rows) (zs := zs) rfl (by rw [lenRw]; rfl) (by rw [lenRw]; exact hcap) (fun x hx => uniRw 3 b rows x hx) (by rw [hmE]) ?_
    refine Wsem0.of ttok mixed ?_
    refine .inr ⟨rfl, fun b1 => ⟨rfl, fun b2 => ⟨rfl, fun b3 => ?_⟩⟩⟩
    have hM := made_ok to b b1 b2 b3 300 rows [t] [s] hmd rfl (fun x hx => by simp at hx; subst hx; omega)
    refine ⟨rfl, 2, _, rfl, Nat.le_refl 1, ?_⟩
    refine ⟨2, _, _, rfl, rfl, ?_⟩
    refine .inr (.inr (.inl ⟨[0, 1, 2], hpM to b1 b2 b3, _, rfl, by decide, hM, ?_⟩))
    exact rfl

/-- Compile, as 'made' has it. -/
theorem Compile_ok (to t0 : Tp) (s : ByteArray) (hs : s.size ≤ 1) {t : Nat} {l : List Pt} (h : PatsOk t l) (b : Nat → Int) (bs : List Int) (hbs : bs.length = l.length) (hb : ∀ k x, bs[k]? = some x → b k = x) :
    ACall Tryd.prog n_cover_Compile [cAV, .lit (.string s), eTy t0, .sl (ePts l), .sl (eCis bs), eTy to] (eCr to (made b 300 (rowsFrom 0 l) [s])) := by
  by_cases hne : l = []
  · subst hne; exact compile_nil to t0 s b bs
  · exact compile_cons to t0 s hs t l h b bs hne hbs hb
end Go.Proofs.YtefdahofpjmnfaaDoor

namespace Go.Proofs.YtefdahofpjmnfaaDoor
open Go Fp
set_option maxRecDepth 10000
set_option maxHeartbeats 16000000
set_option linter.unusedVariables false

abbrev Nv := ByteArray × Vl
def eOf (q : Nv) : AV := .agg [.lit (.string q.1), .lit (.int .i64 q.2.f), .lit (.int .i64 q.2.n), .lit (.string q.2.s), .sl q.2.eKids]
def eOfs (l : List Nv) : List AV := l.map eOf
theorem uniOf (l : List Nv) : Uni 5 (eOfs l) := uniMap (f := eOf) (n := 5) (fun _ => rfl) l
theorem getOf {l : List Nv} {k : Nat} (h : k < l.length) : (eOfs l)[k]? = some (eOf l[k]) := getM h
theorem lenOf (l : List Nv) : (eOfs l).length = l.length := by simp [eOfs]
def zeroV0 : Vl := .mk 0 0 .empty []
def lookK (env : List Nv) (s : ByteArray) : Nat → Vl
  | 0 => zeroV0
  | k + 1 => match env[k]? with
    | some q => if q.1 = s then q.2 else lookK env s k
    | none => zeroV0
def lookE (env : List Nv) (s : ByteArray) : Vl := lookK env s env.length

theorem look_ok (env : List Nv) (s : ByteArray) (hl : env.length < 100000) : ACall Tryd.prog n_fugueref20_look [.sl (eOfs env), .lit (.string s)] (eVl (lookE env s)) := by
  refine acall_of_wcx ttok mixed Tryd.func56 rfl (by rfl) (Nat.le_of_ble_eq_true rfl) (by kernel_rfl) ?_
  refine ⟨{k : Nat // k ≤ env.length ∧ lookK env s k = lookE env s}, fun k => { vs := [(0, .v (.sl (eOfs env))), (1, .v (.lit (.string s))), (4, .box 0 (eVl zeroV0)), (5, sv ((k.1 : Int) - 1))] },
    fun k => k.1, ⟨env.length, Nat.le_refl _, rfl⟩, ⟨⟨rfl, rfl, rfl, ?_, trivial⟩, trivial, rfl⟩, ?_⟩
  · refine svc ?_
    rw [lenOf]
    exact wrap_in ⟨by omega, by omega⟩
  rintro ⟨k, hk, hinv⟩
  refine ⟨fun h => ?_, fun h => ?_⟩
  · have h : 0 < k := by have h := of_decide_eq_true h; simp only at h; omega
    obtain ⟨j, rfl⟩ : ∃ j, k = j + 1 := ⟨k - 1, by omega⟩
    have hj : j < env.length := by omega
    have hjj : Int.toNat (((j + 1 : Nat) : Int) - 1) = j := by omega
    have hg : (eOfs env)[Int.toNat (((j + 1 : Nat) : Int) - 1)]? = some (eOf env[j]) := by rw [hjj]; exact getOf hj
    rw [lookK, List.getElem?_eq_getElem hj] at hinv
    simp only at hinv
    refine ⟨_, by simp only; omega, hg, rfl, ?_⟩
    refine ⟨fun h2 => ?_, fun h2 => ?_⟩
    · have h2 := of_decide_eq_true h2
      refine ⟨_, by simp only; omega, hg, rfl, ?_⟩
      have hv : env[j].2 = lookE env s := by rw [if_pos h2] at hinv; exact hinv
      exact congrArg eVl hv
    · have h2 := of_decide_eq_false h2
      have hv : lookK env s j = lookE env s := by rw [if_neg h2] at hinv; exact hinv
      refine ⟨⟨j, by omega, hv⟩, by simp, ⟨rfl, rfl, rfl, svc ?_, trivial⟩, trivial, rfl⟩
      show IntKind.i64.wrap ((((j + 1 : Nat) : Int) - 1) - 1) = (j : Int) - 1
      rw [wrap_in ⟨by omega, by omega⟩]; omega
  · have h : k = 0 := by have h := of_decide_eq_false h; simp only at h; omega
    subst h
    exact congrArg eVl hinv
end Go.Proofs.YtefdahofpjmnfaaDoor
