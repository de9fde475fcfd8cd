import Derived.Test.YtfnnmecilcnloaaDoorAmTriple
import Derived.OrdersHeld
set_option linter.unusedSimpArgs false
set_option linter.unusedVariables false
set_option linter.unusedSectionVars false
set_option linter.defProp false
namespace Go.Am
open Go
variable [Tabs]

section
variable {P : Program} {ops : Array Oper} {Q : Exit → Act → World → Prop} {md : Region.Mode} {S : World → Prop} {D : Nat → Bool}

/-- whatever order is picked; 'S' behind every operation that is not one of 'D' -/
def wpS (P : Program) (ops : Array Oper) (Q : Exit → Act → World → Prop) (S : World → Prop) (D : Nat → Bool) : Nat → Array Bool → Act → World → Prop
  | 0, listed, a, w => Region.ready .any ops listed = [] ∧ Q .normal a w
  | n + 1, listed, a, w => (Region.ready .any ops listed = [] → Q .normal a w) ∧
    ∀ i ∈ Region.ready .any ops listed, wpOp P ops Q i (fun a' w' => (D i = false → S w') ∧ wpS P ops Q S D n (listed.setIfInBounds i true) a' w') a w

theorem wpS.any : ∀ {n : Nat} {listed : Array Bool} {a : Act} {w : World}, wpS P ops Q S D n listed a w → wpAny P .any ops Q n listed a w
  | 0, _, _, _, h => h
  | _ + 1, _, _, _, h => ⟨h.1, fun i hi => wpOp_mono (fun _ _ h' => h'.2.any) (h.2 i hi)⟩

theorem wpS.mono {S' : World → Prop} (hS : ∀ w, S' w → S w) : ∀ {n : Nat} {listed : Array Bool} {a : Act} {w : World}, wpS P ops Q S' D n listed a w → wpS P ops Q S D n listed a w
  | 0, _, _, _, h => h
  | _ + 1, _, _, _, h => ⟨h.1, fun i hi => wpOp_mono (fun _ _ h' => ⟨fun hd => hS _ (h'.1 hd), h'.2.mono hS⟩) (h.2 i hi)⟩

theorem getD_set_false {listed : Array Bool} {i j : Nat} (h : (listed.setIfInBounds i true).getD j true = false) : listed.getD j true = false := by
  by_cases hij : i = j
  · subst hij
    by_cases hlt : i < listed.size
    · simp [hlt] at h
    · simp [Array.getElem?_eq_none (Nat.le_of_not_lt hlt)] at h
  · rwa [getD_set_ne true hij] at h

/-- where all that is left is of D, nothing is asked of S -/
theorem wpS_of_any : ∀ {n : Nat} {listed : Array Bool} {a : Act} {w : World}, (∀ j, listed.getD j true = false → D j = true) → wpAny P .any ops Q n listed a w → wpS P ops Q S D n listed a w
  | 0, _, _, _, _, h => h
  | _ + 1, listed, _, _, hD, h => ⟨h.1, fun i hi => wpOp_mono (fun _ _ h' => ⟨fun hd => Bool.noConfusion ((hD i (mem_ready.1 hi).1).symm.trans hd), wpS_of_any (fun j hj => hD j (getD_set_false hj)) h'⟩) (h.2 i hi)⟩

theorem wpS_first {i : Nat} {oi : Oper} {v : Value} (hi : ops[i]? = some oi) (hsel : ∀ (j : Nat) (o : Oper) cs b, ops[j]? = some o → o.op ≠ .select cs b)
    (hQ : ∀ c a w, ¬ Q (.panic c) a w) (W : Nat → Prop) :
    ∀ (n : Nat) (listed : Array Bool) (a : Act) (w : World),
      (∀ j oj, ops[j]? = some oj → j ≠ i → listed.getD j true = false → (∀ e ∈ oj.after, Region.binds .any e = true → e.on ≠ i) → oi.apart ops oj = true) →
      (∀ j, W j → listed.getD j true = false ∧ ∃ oj, ops[j]? = some oj ∧ ∃ e ∈ oj.after, Region.binds .any e = true ∧ (e.on = i ∨ W e.on)) → (∀ j, j < ops.size → D j = true → listed.getD j true = false → W j) →
      i ∈ Region.ready .any ops listed → YieldsIf P ops S oi v a → S w →
      wpS P ops Q S D n (listed.setIfInBounds i true) (a.put oi.dst v) w → wpS P ops Q S D (n + 1) listed a w := by
  intro n
  induction n with
  | zero =>
    intro listed a w _ _ _ hr hy hS H
    refine ⟨fun h => (by rw [h] at hr; cases hr), fun j hj => ?_⟩
    by_cases hji : j = i
    · subst hji; exact hy.wpOp hi hS ⟨fun _ => hS, H⟩
    · have := ready_mono hj hji
      rw [H.1] at this
      cases this
  | succ n ih =>
    intro listed a w hfree hhold hDW hr hy hS H
    refine ⟨fun h => (by rw [h] at hr; cases hr), fun j hj => ?_⟩
    by_cases hji : j = i
    · subst hji; exact hy.wpOp hi hS ⟨fun _ => hS, H⟩
    · have h1 := H.2 j (ready_mono hj hji)
      obtain ⟨hjun, oj, hoj, hall⟩ := mem_ready.1 hj
      have hun : ∀ k, listed.getD k true = false → listed.getD k false = false := fun k hk => by
        rcases Nat.lt_or_ge k listed.size with h' | h'
        · simp [h'] at hk ⊢; exact hk
        · simp [Array.getElem?_eq_none h'] at hk
      have hnot : ∀ e ∈ oj.after, Region.binds .any e = true → listed.getD e.on true = false → False := fun e he hb hu => by
        have h1 := hall e he hb
        rw [hun _ hu] at h1
        cases h1
      have hni : ∀ e ∈ oj.after, Region.binds .any e = true → e.on ≠ i := fun e he hb heq => hnot e he hb (by rw [heq]; exact (mem_ready.1 hr).1)
      have hWj : ¬ W j := by
        intro hw
        obtain ⟨-, oj', hoj', e, he, hb, h0⟩ := hhold j hw
        rw [hoj] at hoj'
        injection hoj' with hoj'
        subst hoj'
        rcases h0 with h0 | h0
        · exact hni e he hb h0
        · exact hnot e he hb (hhold _ h0).1
      have hDj : D j = false := by
        cases hd : D j with
        | false => rfl
        | true => exact absurd (hDW j (Array.getElem?_eq_some_iff.1 hoj).1 hd hjun) hWj
      have h2 := wpOp_putIf hoj (hfree j oj hoj hji hjun hni) (fun cs b => hsel i oi cs b hi) (fun cs b => hsel j oj cs b hoj) (fun c a w hq => (hQ c _ w hq).elim) hy h1
      refine wpOp_mono (fun a' w' h3 => ?_) h2
      have hS' := h3.2.1 hDj
      refine ⟨fun _ => hS', ih (listed.setIfInBounds j true) a' w' ?_ ?_ ?_ (ready_mono hr (Ne.symm hji)) h3.1 hS' ?_⟩
      · exact fun k ok hk hki hku hno => hfree k ok hk hki (getD_set_false hku) hno
      · intro k hk
        obtain ⟨h5, h6⟩ := hhold k hk
        refine ⟨?_, h6⟩
        rw [getD_set_ne true (fun h7 => hWj (by rw [h7]; exact hk))]
        exact h5
      · exact fun k hk hd hku => hDW k hk hd (getD_set_false hku)
      · rw [Array.setIfInBounds_comm _ _ hji]
        exact h3.2.2
end

section
variable {P : Program} {L : List Nat} {N n0 : Nat} {F : Nat → Prop} {γ : List Nat} {C C' : Nat → List Value} {e : Env} {ah : AH} {ts : Array Value} {w w' : World} {m : Bool}
variable {e' : Env} {ah' : AH} {ops : Array Oper} {Q : Exit → Act → World → Prop}

theorem KA.trans {γ' : List Nat} {w2 : World} (hg : ∀ (s b : Nat), γ[s]? = some b → γ'[s]? = some b) (hC : ∀ b, C b <+: C' b) (h : KA m γ C w w') (h' : KA m γ' C' w' w2) : KA m γ C w w2 :=
  ⟨fun b i hi => (h'.1 b i (Nat.lt_of_lt_of_le hi (hC b).length_le)).trans (h.1 b i hi), fun hm s b hs => (h'.2 hm s b (hg s b hs)).trans (h.2 hm s b hs)⟩

theorem pre_get {γ γ' : List Nat} (h : γ <+: γ') {s b : Nat} (hs : γ[s]? = some b) : γ'[s]? = some b := by
  obtain ⟨q, rfl⟩ := h
  rw [List.getElem?_append_left (List.getElem?_eq_some_iff.1 hs).1]; exact hs

theorem KA.of_sr {e ah ts e' ah' ts'} {γ' : List Nat} (h : SR L N F γ C e ah ts w) (h' : SR L N F γ' C' e' ah' ts' w') (hx : Ext F C w C' w')
    (ho : m = true → ∀ (s b : Nat), γ[s]? = some b → w'.heap[b]? = w.heap[b]?) : KA m γ C w w' := by
  refine ⟨fun b i hi => ?_, ho⟩
  rw [cell_row h hi, cell_row h' (Nat.lt_of_lt_of_le hi (hx.pre b).length_le), getD_prefix (hx.pre b) hi]

theorem put_tmps (a : Act) (d : Option Nat) (v : Value) (h : a.defers = []) : a.put d v = ⟨(a.put d v).tmps, []⟩ := by
  obtain ⟨ts, ds⟩ := a
  simp only at h
  subst h
  cases d <;> rfl

/-- one operation that is carried out -/
theorem step_ok {o : Oper} {i : Nat} {op : AOp} {g : Option (Nat × Bool)} {as : List AOper} {K : Env → AH → Prop} {R : Act → World → Prop} (hi : ops[i]? = some o) (hop : copM P m o = some op.er) (hg : cguard ops o.guard = some g)
    (hdst : ∀ x, o.dst = some x → x < N) (hs : SR L N F γ C e ah ts w) (hk : opsW P L (⟨o.dst, op, g⟩ :: as) e ah K)
    (next : ∀ v e' ah' γ' C' w', opsW P L as e' ah' K → γ <+: γ' → SR L N F γ' C' e' ah' ((⟨ts, []⟩ : Act).put o.dst v).tmps w' → Ext F C w C' w' → (stOk P m o = true → KA m γ C w w') → R ((⟨ts, []⟩ : Act).put o.dst v) w') :
    wpOp P ops Q i R ⟨ts, []⟩ w := by
  unfold wpOp
  simp only [hi]
  simp only [opsW] at hk
  split at hk
  · rename_i hgo
    rw [if_pos (guard_ok hs hg hgo)]
    refine .inl ?_
    by_cases hcall : op.isCall = true
    · cases op with
      | call f cas =>
        have hop : cop P o = some (.call f cas) := by
          cases m with
          | true => simpa [copM, AOp.er] using hop
          | false =>
            simp only [copM, Bool.false_eq_true, if_false, Option.map_eq_some_iff] at hop
            obtain ⟨op', h1, h2⟩ := hop
            rw [h1, toE_call h2]
        simp only [opW] at hk
        split at hk
        case h_2 => exact hk.elim
        rename_i f' caps hfv
        obtain ⟨hfl, hk⟩ := hk
        obtain ⟨x, args, tys, ho, hx, hargs⟩ := cop_call hop
        have h1 := arg0_ok (ds := []) hs hx
        rw [hfv] at h1
        obtain ⟨vs, hfx, hcl, hcv⟩ := h1.1.fn_inv
        obtain ⟨c1, c2⟩ := cargs_ok hs _ _ _ hargs
        have hcallee := call_ok (d := o.dst) (ds := []) (vs := args.map (Act.eval ⟨ts, []⟩) ++ vs) hs hdst hk (by simp [c1, hcl]) (call_args hs hfl hcl hcv c1 c2)
        have hexec : (execOp (Act.eval ⟨ts, []⟩) o).run P w = .ok (.enter f' (args.map (Act.eval ⟨ts, []⟩) ++ vs)) w := by
          rw [ho]; exact exec_call hk.1 hfx
        unfold Oper.wp
        rw [hexec]
        simp only [Oper.upon]
        refine hcallee.mono ?_
        rintro en w1 ⟨r, v, ah1, γ1, C1, rfl, hR, hγ, hs1, hx1⟩
        refine next v _ ah1 γ1 C1 w1 hR hγ hs1 hx1 fun hst => KA.of_sr hs hs1 hx1 fun hm => ?_
        rw [ho] at hst
        simp [stOk, quietO, storeO, isCallV, hm] at hst
      | appo k b x y =>
        simp only [opW] at hk
        obtain ⟨e1, ah1, hk', v, w1, γ1, C1, hr, hγ, hs1, hx1, hst, -⟩ := op_appoE (ds := []) hs hdst hop hk
        have nx := next v e1 ah1 γ1 C1 w1 hk' hγ hs1 hx1 fun h => KA.of_sr hs hs1 hx1 fun hm => by
          refine hst ?_
          obtain ⟨_, _, _, _, _, _, ho, -⟩ := cop_app (copM_app hop)
          rw [ho] at h
          simp [stOk, quietO, storeO, hm] at h
        unfold Oper.wp
        rcases hr with hr | ⟨hr, rfl⟩ <;> rw [hr] <;> exact nx
      | nq n x =>
        simp only [opW] at hk
        obtain ⟨e1, ah1, hk', v, w1, γ1, C1, hr, hγ, hs1, hx1, hst, -⟩ := op_nqE (ds := []) hs hdst hop hk
        have nx := next v e1 ah1 γ1 C1 w1 hk' hγ hs1 hx1 fun h => KA.of_sr hs hs1 hx1 fun hm => by
          refine hst ?_
          obtain ⟨_, _, _, _, _, ho, -⟩ := cop_nq (copM_nq hop)
          rw [ho]; rfl
        unfold Oper.wp
        rcases hr with hr | ⟨hr, rfl⟩ <;> rw [hr] <;> exact nx
      | _ => cases hcall
    · have hcall' : op.isCall = false := by simpa using hcall
      have hk' : match aev L ⟨o.dst, op, g⟩ e ah with | some (e', ah') => opsW P L as e' ah' K | none => False := by
        cases op <;> first | exact hk | cases hcall'
      rw [aev_g] at hk'
      cases hev : aev L ⟨o.dst, op, none⟩ e ah with
      | none => rw [hev] at hk'; exact hk'.elim
      | some ea =>
        obtain ⟨e1, ah1⟩ := ea
        rw [hev] at hk'
        obtain ⟨v, w1, γ1, C1, hr, hγ, hs1, hx1, hst, -⟩ := op_okME (ds := []) hs hdst hop hcall' hev
        have nx := next v e1 ah1 γ1 C1 w1 hk' hγ hs1 hx1 fun h => KA.of_sr hs hs1 hx1 fun hm => by
          refine hst ?_
          cases hso : storeO o.op with
          | false => rfl
          | true =>
            exfalso
            cases ho : o.op with
            | call c =>
              rw [ho] at hso
              obtain ⟨ce, _, _⟩ := c
              cases ce with
              | builtin b => cases b <;> simp [storeO] at hso; simp [stOk, quietO, storeO, ho, hm] at h
              | _ => simp [storeO] at hso
            | store a b c => simp [stOk, quietO, storeO, ho, hm] at h
            | _ => rw [ho] at hso; simp [storeO] at hso
        unfold Oper.wp
        rcases hr with hr | ⟨hr, rfl⟩ <;> rw [hr] <;> exact nx
  · rename_i hgo
    have hw := guard_ok hs hg hgo
    rw [if_neg (by rw [hw]; simp)]
    refine next undef _ ah γ C w hk (List.prefix_refl _) ?_ (Ext.refl ..) fun _ => KA.refl ..
    cases ho : o.dst with
    | none => exact hs
    | some d => exact hs.put0 (hdst d ho) (.tup _ [] #[] rfl (by simp)) (by simp [undef, TC]) rfl (by simp)
  · exact hk.elim

/-- one that only looks -/
theorem quiet_ok {o : Oper} {op : AOp} {g : Option (Nat × Bool)} {as : List AOper} {K : Env → AH → Prop} (hq : quietO P o.op = true) (hop : copM P m o = some op.er) (hg : cguard ops o.guard = some g)
    (hdst : ∀ x, o.dst = some x → x < N) (hs : SR L N F γ C e ah ts w) (hk : opsW P L (⟨o.dst, op, g⟩ :: as) e ah K) :
    ∃ v e' ah', YieldsIf P ops (KA m γ C w) o v ⟨ts, []⟩ ∧ opsW P L as e' ah' K ∧ SR L N F γ C e' ah' ((⟨ts, []⟩ : Act).put o.dst v).tmps w := by
  simp only [opsW] at hk
  split at hk
  · rename_i hgo
    have hw := guard_ok hs hg hgo
    by_cases hnq : ∃ n x, op = .nq n x
    · obtain ⟨n, x, rfl⟩ := hnq
      simp only [opW] at hk
      obtain ⟨e1, ah1, hk', v, w1, γ1, C1, hr, hγ, hs1, hx1, hst, hqq⟩ := op_nqE (ds := []) hs hdst hop hk
      obtain ⟨rfl, rfl, rfl, hrun⟩ := hqq hq
      exact ⟨v, e1, ah1, .inl ⟨hw, hrun⟩, hk', hs1⟩
    have hcall' : op.isCall = false := by
      cases op with
      | call f cas =>
        exfalso
        have hop : cop P o = some (.call f cas) := by
          cases m with
          | true => simpa [copM, AOp.er] using hop
          | false =>
            simp only [copM, Bool.false_eq_true, if_false, Option.map_eq_some_iff] at hop
            obtain ⟨op', h1, h2⟩ := hop
            rw [h1, toE_call h2]
        obtain ⟨x, args, tys, ho, -, -⟩ := cop_call hop
        rw [ho] at hq
        simp [quietO] at hq
      | appo k b x y =>
        exfalso
        obtain ⟨_, _, _, _, _, _, ho, -⟩ := cop_app (copM_app hop)
        rw [ho] at hq
        simp [quietO] at hq
      | nq n x => exact absurd ⟨_, _, rfl⟩ hnq
      | _ => rfl
    have hk' : match aev L ⟨o.dst, op, g⟩ e ah with | some (e', ah') => opsW P L as e' ah' K | none => False := by
      cases op <;> first | exact hk | cases hcall'
    rw [aev_g] at hk'
    cases hev : aev L ⟨o.dst, op, none⟩ e ah with
    | none => rw [hev] at hk'; exact hk'.elim
    | some ea =>
      obtain ⟨e1, ah1⟩ := ea
      rw [hev] at hk'
      obtain ⟨v, w1, γ1, C1, hr, hγ, hs1, hx1, hst, hqq⟩ := op_okME (ds := []) hs hdst hop hcall' hev
      obtain ⟨rfl, rfl, rfl, hrun⟩ := hqq hq
      exact ⟨v, e1, ah1, .inl ⟨hw, hrun⟩, hk', hs1⟩
  · rename_i hgo
    refine ⟨undef, _, ah, .inr ⟨guard_ok hs hg hgo, rfl⟩, hk, ?_⟩
    cases ho : o.dst with
    | none => exact hs
    | some d => exact hs.put0 (hdst d ho) (.tup _ [] #[] rfl (by simp)) (by simp [undef, TC]) rfl (by simp)
  · exact hk.elim

theorem copsM_app : ∀ (l r : List (Bool × Nat)) (as : List AOper), copsM P ops (l ++ r) = some as → ∃ a1 a2, copsM P ops l = some a1 ∧ copsM P ops r = some a2 ∧ as = a1 ++ a2 := by
  intro l
  induction l with
  | nil => intro r as h; exact ⟨[], as, rfl, h, rfl⟩
  | cons p l ih =>
    intro r as h
    obtain ⟨m, i⟩ := p
    simp only [List.cons_append, copsM] at h
    split at h
    case h_2 => cases h
    rename_i o ho
    split at h
    case h_2 => cases h
    rename_i a g as' h1 h2 h3
    injection h with h
    obtain ⟨a1, a2, g1, g2, rfl⟩ := ih r as' h3
    exact ⟨⟨o.dst, a, g⟩ :: a1, a2, by simp [copsM, ho, h1, h2, g1], g2, by rw [← h]; rfl⟩
theorem copsM_appE (l r : List (Bool × Nat)) (as : List AOper) (h : copsM P ops (l ++ r) = some (as.map AOper.er)) : ∃ a1 a2, copsM P ops l = some (a1.map AOper.er) ∧ copsM P ops r = some (a2.map AOper.er) ∧ as = a1 ++ a2 := by
  obtain ⟨b1, b2, h1, h2, h3⟩ := copsM_app _ _ _ h
  obtain ⟨a1, a2, rfl, rfl, rfl⟩ := List.map_eq_append_iff.1 h3
  exact ⟨a1, a2, h1, h2, rfl⟩
theorem opsW_app : ∀ (l r : List AOper) (e : Env) (ah : AH) (K : Env → AH → Prop), opsW P L (l ++ r) e ah K = opsW P L l e ah fun e ah => opsW P L r e ah K := by
  intro l
  induction l with
  | nil => intros; rfl
  | cons o l ih =>
    intro r e ah K
    simp only [List.cons_append, opsW, ih]
theorem dOk_app : ∀ (l r : List AOper), dOk N (l ++ r) = true → dOk N l = true ∧ dOk N r = true := by
  intro l
  induction l with
  | nil => intro r h; exact ⟨rfl, h⟩
  | cons o l ih =>
    intro r h
    simp only [List.cons_append, dOk, Bool.and_eq_true] at h ⊢
    obtain ⟨h1, h2⟩ := ih r h.2
    exact ⟨⟨h.1, h1⟩, h2⟩

theorem dst_of {o : Oper} {a : AOp} {g : Option (Nat × Bool)} {as : List AOper} (h : dOk N (⟨o.dst, a, g⟩ :: as) = true) : (∀ x, o.dst = some x → x < N) ∧ dOk N as = true := by
  simp only [dOk, Bool.and_eq_true] at h
  refine ⟨fun x hx => ?_, h.2⟩
  have := h.1.1
  rw [hx] at this
  simpa using this

theorem copsM_cons {i : Nat} {r : List (Bool × Nat)} {as : List AOper} (h : copsM P ops ((m, i) :: r) = some as) :
    ∃ o a g as', ops[i]? = some o ∧ copM P m o = some a ∧ cguard ops o.guard = some g ∧ copsM P ops r = some as' ∧ as = ⟨o.dst, a, g⟩ :: as' := by
  simp only [copsM] at h
  split at h
  case h_2 => cases h
  rename_i o ho
  split at h
  case h_2 => cases h
  rename_i a g as' h1 h2 h3
  injection h with h
  exact ⟨o, a, g, as', ho, h1, h2, h3, h.symm⟩

theorem copsM_consE {i : Nat} {r : List (Bool × Nat)} {as : List AOper} (h : copsM P ops ((m, i) :: r) = some (as.map AOper.er)) :
    ∃ o a g as', ops[i]? = some o ∧ copM P m o = some (AOp.er a) ∧ cguard ops o.guard = some g ∧ copsM P ops r = some (as'.map AOper.er) ∧ as = ⟨o.dst, a, g⟩ :: as' := by
  obtain ⟨o, a, g, as', h1, h2, h3, h4, h5⟩ := copsM_cons h
  cases as with
  | nil => simp at h5
  | cons x xs =>
    simp only [List.map_cons, List.cons.injEq] at h5
    obtain ⟨d, op', g'⟩ := x
    obtain ⟨h6, h7⟩ := h5
    simp only [AOper.er] at h6
    injection h6 with e1 e2 e3
    subst e1; subst e2; subst e3
    exact ⟨o, op', g', xs, h1, h2, h3, by rw [h4, h7], rfl⟩

theorem stage_wp {D : Nat → Bool} (hsel : Region.noSelect ops = true) (hQ : ∀ c a w, ¬ Q (.panic c) a w) : ∀ (l : List Nat) (as : List AOper) (e : Env) (ah : AH) (γ : List Nat) (C : Nat → List Value) (ts : Array Value) (w : World) (listed : Array Bool) (n : Nat)
    (K : Env → AH → Prop), copsM P ops (l.map fun i => (m, i)) = some (as.map AOper.er) → dOk N as = true → SR L N F γ C e ah ts w → opsW P L as e ah K → stageOk P ops m D l listed = true →
    (∀ e' ah' γ' C' ts' w', K e' ah' → γ <+: γ' → SR L N F γ' C' e' ah' ts' w' → Ext F C w C' w' → wpS P ops Q (KA m γ' C' w') D n (l.foldl (fun a i => a.setIfInBounds i true) listed) ⟨ts', []⟩ w') →
    wpS P ops Q (KA m γ C w) D (l.length + n) listed ⟨ts, []⟩ w := by
  intro l
  induction l with
  | nil =>
    intro as e ah γ C ts w listed n K hc hd hs hk hst cont
    simp only [List.map_nil, copsM, Option.some.injEq] at hc
    obtain rfl : as = [] := by simpa using hc.symm
    have := cont e ah γ C ts w hk (List.prefix_refl _) hs (Ext.refl ..)
    simpa using this
  | cons i l ih =>
    intro as e ah γ C ts w listed n K hc hd hs hk hst cont
    obtain ⟨o, a, g, as', ho, hop, hg, has, rfl⟩ := copsM_consE hc
    obtain ⟨hdst, hd'⟩ := dst_of hd
    simp only [stageOk, ho, Bool.and_eq_true, Bool.or_eq_true] at hst
    obtain ⟨hst, hrest⟩ := hst
    have hlen : (i :: l).length + n = (l.length + n) + 1 := by simp; omega
    rw [hlen]
    rcases hst with ⟨⟨⟨⟨hq, hDi⟩, hr⟩, hfree⟩, hhold⟩ | ⟨hok, hr⟩
    · obtain ⟨v, e1, ah1, hy, hk1, hs1⟩ := quiet_ok hq hop hg hdst hs hk
      refine wpS_first ho (Region.noSelect_spec hsel) hQ (fun j => j ∈ waitsOn ops i) _ listed _ w (Region.free_spec ho hfree) (fun j hj => ?_) (fun j hj hDj hju => ?_) (by simpa using hr) hy (KA.refl ..) ?_
      · simp only [holdsD, holdsW, Bool.and_eq_true, List.all_eq_true] at hhold
        obtain ⟨h1, h2⟩ := hhold.1 j hj
        refine ⟨by simpa using h1, ?_⟩
        split at h2
        · rename_i oj hoj
          obtain ⟨x, hx, hb⟩ := Array.any_eq_true'.1 h2
          simp only [Bool.and_eq_true, Bool.or_eq_true, beq_iff_eq, List.contains_iff_mem] at hb
          exact ⟨oj, hoj, x, hx, hb.1, hb.2⟩
        · cases h2
      · simp only [holdsD, holdsW, Bool.and_eq_true, List.all_eq_true, List.mem_range] at hhold
        have := hhold.2 j hj
        simpa [hDj, hju] using this
      · rw [put_tmps _ _ _ rfl]
        exact ih as' e1 ah1 γ C _ w _ n K has hd' hs1 hk1 hrest cont
    · have hr : Region.ready .any ops listed = [i] := by simpa using hr
      refine ⟨fun h => (by rw [hr] at h; cases h), fun j hj => ?_⟩
      rw [hr] at hj
      obtain rfl : j = i := by simpa using hj
      refine step_ok ho hop hg hdst hs hk fun v e1 ah1 γ1 C1 w1 hk1 hγ hs1 hx1 hka => ⟨fun _ => hka hok, ?_⟩
      rw [put_tmps _ _ _ rfl]
      refine (ih as' e1 ah1 γ1 C1 _ w1 _ n K has hd' hs1 hk1 hrest fun e' ah' γ' C' ts' w' g1 g2 g3 g4 => ?_).mono fun w2 h2 => (hka hok).trans (fun s b hs => pre_get hγ hs) hx1.pre h2
      exact cont e' ah' γ' C' ts' w' g1 (hγ.trans g2) g3 (hx1.trans g4)

theorem foldl_listed : ∀ (l : List Nat) (listed : Array Bool) (j : Nat), (l.foldl (fun a i => a.setIfInBounds i true) listed).getD j true = false → listed.getD j true = false ∧ j ∉ l := by
  intro l
  induction l with
  | nil => intro listed j h; exact ⟨h, by simp⟩
  | cons i l ih =>
    intro listed j h
    obtain ⟨h1, h2⟩ := ih _ j h
    refine ⟨getD_set_false h1, ?_⟩
    rw [List.mem_cons, not_or]
    refine ⟨fun hj => ?_, h2⟩
    subst hj
    by_cases hlt : j < listed.size
    · simp [hlt] at h1
    · have := getD_set_false h1
      simp [Array.getElem?_eq_none (Nat.le_of_not_lt hlt)] at this

theorem stages_wp (hsel : Region.noSelect ops = true) (hQ : ∀ c a w, ¬ Q (.panic c) a w) : ∀ (st : List (Bool × List Nat)) (as : List AOper) (e : Env) (ah : AH) (γ : List Nat) (C : Nat → List Value) (ts : Array Value) (w : World) (listed : Array Bool)
    (K : Env → AH → Prop), copsM P ops (flatS st) = some (as.map AOper.er) → dOk N as = true → SR L N F γ C e ah ts w → opsW P L as e ah K → stagesOk P ops st listed = true →
    (∀ e' ah' γ' C' ts' w', K e' ah' → γ <+: γ' → SR L N F γ' C' e' ah' ts' w' → Ext F C w C' w' → Q .normal ⟨ts', []⟩ w') →
    wpAny P .any ops Q (flatS st).length listed ⟨ts, []⟩ w := by
  intro st
  induction st with
  | nil =>
    intro as e ah γ C ts w listed K hc hd hs hk hst cont
    simp only [flatS, copsM, Option.some.injEq] at hc
    obtain rfl : as = [] := by simpa using hc.symm
    exact ⟨by simpa [stagesOk] using hst, cont e ah γ C ts w hk (List.prefix_refl _) hs (Ext.refl ..)⟩
  | cons s st ih =>
    intro as e ah γ C ts w listed K hc hd hs hk hst cont
    obtain ⟨m, l⟩ := s
    simp only [flatS] at hc ⊢
    obtain ⟨a1, a2, hc1, hc2, rfl⟩ := copsM_appE _ _ _ hc
    obtain ⟨hd1, hd2⟩ := dOk_app _ _ hd
    rw [opsW_app] at hk
    unfold stagesOk at hst
    rw [Bool.and_eq_true] at hst
    obtain ⟨hst, hrest⟩ := hst
    have key : ∀ (Q' : Nat → Bool), stageOk P ops m Q' l listed = true → (∀ j, Q' j = !l.contains j) → wpAny P .any ops Q (l.map (fun i => (m, i)) ++ flatS st).length listed ⟨ts, []⟩ w := by
      intro D hsok hD
      rw [List.length_append, List.length_map]
      refine (stage_wp hsel hQ l a1 e ah γ C ts w listed _ _ hc1 hd1 hs hk hsok fun e' ah' γ' C' ts' w' g1 g2 g3 g4 => ?_).any
      refine wpS_of_any (fun j hj => ?_) (ih a2 e' ah' γ' C' ts' w' _ K hc2 hd2 g3 g1 hrest fun e2 ah2 γ2 C2 ts2 w2 q1 q2 q3 q4 => cont e2 ah2 γ2 C2 ts2 w2 q1 (g2.trans q2) q3 (g4.trans q4))
      rw [hD]
      simpa using (foldl_listed l listed j hj).2
    split at hst
    · rename_i i
      simp only [Bool.and_eq_true, beq_iff_eq] at hst
      obtain ⟨rfl, hr⟩ := hst
      obtain ⟨o, a, g, as', ho, hop, hg, has, rfl⟩ := copsM_consE hc1
      simp only [List.map_nil, copsM, Option.some.injEq] at has
      obtain rfl : as' = [] := by simpa using has.symm
      obtain ⟨hdst, -⟩ := dst_of hd1
      refine ⟨fun h => (by rw [hr] at h; cases h), fun j hj => ?_⟩
      rw [hr] at hj
      obtain rfl : j = i := by simpa using hj
      refine step_ok ho hop hg hdst hs hk fun v e1 ah1 γ1 C1 w1 hk1 hγ hs1 hx1 hka => ?_
      rw [put_tmps _ _ _ rfl]
      exact ih a2 e1 ah1 γ1 C1 _ w1 _ K hc2 hd2 hs1 hk1 hrest fun e2 ah2 γ2 C2 ts2 w2 q1 q2 q3 q4 => cont e2 ah2 γ2 C2 ts2 w2 q1 (hγ.trans q2) q3 (hx1.trans q4)
    · exact key _ hst fun _ => rfl

theorem sched_ok {st : List (Bool × List Nat)} (h : sched P ops = some st) : stagesOk P ops st (Array.replicate ops.size false) = true ∧ (flatS st).length = ops.size := by
  have : schedOk P ops st = true := by
    unfold sched at h
    split at h
    · rename_i s hs
      injection h with h; subst h
      exact (Option.filter_eq_some_iff.1 hs).2
    · exact (Option.filter_eq_some_iff.1 h).2
  simpa [schedOk] using this

theorem AW.drawn {id : Nat} {st : List (Bool × List Nat)} {as : List AOper} {Q : Exit → Env → AH → Prop} (hm : P.follows .mixedOrders = true) (hsel : Region.noSelect ops = true) (hst : sched P ops = some st) (hc : copsM P ops (flatS st) = some (as.map AOper.er))
    (hd : dOk N as = true) (h : opsW P L as e ah fun e ah => Q .normal (keep L e) ah) : AW P L N n0 (.region id ops true) Q e ah := by
  intro F γ C ts w hs hn
  obtain ⟨h1, h2⟩ := sched_ok hst
  refine wp_mono (Q := fun x a' w' => x = .normal ∧ a'.defers = [] ∧ NG x ∧ ∃ e' ah' γ' C', Q x e' ah' ∧ γ.take n0 <+: γ' ∧ SR L N F γ' C' e' ah' a'.tmps w' ∧ Ext F C w C' w') ?_ (fun _ _ _ h => h.2)
  refine wp_region_any hm ?_
  have hw0 : ∀ b, b < w.heap.size → ({ w with drawn := w.drawn + 1 } : World).heap[b]? = w.heap[b]? := fun _ _ => rfl
  obtain ⟨hs1, hx1⟩ := hs.grow (w' := { w with drawn := w.drawn + 1 }) (C' := C) hw0 (Nat.le_refl _) (fun _ _ => rfl) (fun b hb hne => absurd (C_new hs hb) hne)
  have hfin := fun q => stages_wp (Q := fun x a' w' => x = .normal ∧ a'.defers = [] ∧ NG x ∧ ∃ e' ah' γ' C', Q x e' ah' ∧ γ.take n0 <+: γ' ∧ SR L N F γ' C' e' ah' a'.tmps w' ∧ Ext F C w C' w') hsel (fun c a w hq => by cases hq.1) st as e ah γ C ts _ _ _ hc hd hs1 h h1 q
  rw [h2] at hfin
  refine hfin fun e' ah' γ' C' ts' w' q1 q2 q3 q4 => ?_
  exact ⟨rfl, rfl, trivial, keep L e', ah', γ', C', q1, take_pre q2, q3.keep L, hx1.trans q4⟩
end
end Go.Am
