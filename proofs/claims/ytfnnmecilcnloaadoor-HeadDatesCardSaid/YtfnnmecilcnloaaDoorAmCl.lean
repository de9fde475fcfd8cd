import Derived.Test.YtfnnmecilcnloaaDoorAmW
import Derived.Test.YtfnnmecilcnloaaDoorAmPE
set_option linter.unusedSimpArgs false
set_option linter.unusedVariables false
set_option linter.unusedSectionVars false
set_option linter.defProp false
set_option maxRecDepth 100000
namespace Go.Am
open Go
open Nat renaming reduceEqDiff → nA, reduceLT → nB, reduceLeDiff → nC, reduceAdd → nD, reduceSub → nE, reduceMul → nF, reduceBEq → nG
variable [Tabs]
theorem UG_nq {P : Program} {L : List Nat} {N n0 : Nat} {e : Env} {ah : AH} {t : List It} {Q : Exit → Env → AH → Prop} {r : List AOper} {d : Option Nat} {g : Option (Nat × Bool)} {n : Bool} {x : Ar} {tg : Tg} {k : Nat} {xs : List AV}
    (hx : ev e x = .sl tg k xs) (h1 : xs = [] → ∀ b, U P L N n0 (.ops r :: t) Q .normal (putv L e d (.bool b)) ah) (h2 : xs ≠ [] → U P L N n0 (.ops r :: t) Q .normal (putv L e d (.bool n)) ah) :
    UG P L N n0 ⟨d, .nq n x, g⟩ r t Q e ah (some true) := by
  show nqW L d n x e ah _
  unfold nqW
  rw [hx]
  exact ⟨h1, h2⟩
def cloneC (k b : Nat) : ACode := .seq (.rg [⟨some 2, .asg (.c (.sl .ex k [])), none⟩]) (.seq (.seq (.rg [⟨some 3, .mv (.t 0), none⟩, ⟨some 4, .nq false (.t 3), none⟩]) (.cond (.t 4) (.seq (.rg [⟨some 2, .asg (.c (.sl .ex k [])), none⟩]) .ret) .skip))
  (.seq (.rg [⟨some 5, .bsl k [], none⟩, ⟨some 6, .mv (.t 0), none⟩, ⟨some 7, .app k b (.t 5) (.t 6), none⟩, ⟨some 2, .asg (.t 7), none⟩]) .ret))
/-- slices.Clone -/
theorem clone_calls {P : Program} {f k b : Nat} {xs ys : List AV} {H0 : AH} (hF : FnOk P f 8 [.tmp 2] (cloneC k b)) (hz : capp b [] xs = some ys) : ACalls P f [.sl .n k xs] H0 fun v H' => v = .sl .own k ys ∧ H' = H0 := by
  refine ACalls.goX hF (m := cloneC k b) rfl [0, 2, 4] rfl (by simp) fun hcl K0 hK0 => ?_
  refine AX.of_U (m := cloneC k b) rfl rfl ?_
  have hys : ys = xs := by unfold capp at hz; split at hz <;> simp_all
  subst hys
  simp only [WW, ↓reduceIte, nA, nB, nC, nD, nE, nF, nG, reduceCtorEq, cloneC]
  have step : U P [0, 2, 4] 8 H0.length [.code .skip, .code (.seq (.rg [⟨some 5, .bsl k [], none⟩, ⟨some 6, .mv (.t 0), none⟩, ⟨some 7, .app k b (.t 5) (.t 6), none⟩, ⟨some 2, .asg (.t 7), none⟩]) .ret)] K0 .normal
      [(0, .sl .n k ys), (2, .sl .ex k []), (4, .bool false)] H0 := by
    simp only [WW, ↓reduceIte, nA, nB, nC, nD, nE, nF, nG, reduceCtorEq, hz, List.all_nil, List.map_nil]
    refine hK0 _ _ _ (.inr rfl) ?_
    exact fn_endp hcl (resv_tmp (a := .sl .own k ys) rfl rfl resv_nil) (by simp [fin, AV.df]) Wx.oo (r' := .sl .own k ys) ⟨rfl, rfl⟩
  refine UG_nq (by rfl) (fun h0 b => ?_) (fun h0 => ?_)
  · subst h0
    simp only [WW, ↓reduceIte, nA, nB, nC, nD, nE, nF, nG, reduceCtorEq]
    cases b
    · refine UC_f rfl ?_
      exact step
    · refine UC_t rfl ?_
      simp only [WW, ↓reduceIte, nA, nB, nC, nD, nE, nF, nG, reduceCtorEq]
      refine hK0 _ _ _ (.inr rfl) ?_
      exact fn_endp hcl (resv_tmp (a := .sl .ex k []) rfl rfl resv_nil) (by simp [fin, AV.df]) (Wx.own ..) (r' := .sl .own k []) ⟨rfl, rfl⟩
  · simp only [WW, ↓reduceIte, nA, nB, nC, nD, nE, nF, nG, reduceCtorEq, hz, List.all_nil, List.map_nil]
    refine hK0 _ _ _ (.inr rfl) ?_
    exact fn_endp hcl (resv_tmp (a := .sl .own k ys) rfl rfl resv_nil) (by simp [fin, AV.df]) Wx.oo (r' := .sl .own k ys) ⟨rfl, rfl⟩
end Go.Am
namespace Go.Am
open Go
variable [Tabs]
theorem SR.ret0 {L : List Nat} {N : Nat} {F : Nat → Prop} {γ : List Nat} {C : Nat → List Value} {e : Env} {ah : AH} {ts : Array Value} {w : World} (h : SR L N F γ C e ah ts w) {r : AV} {v : Value} (hr : Am.get e 0 = r) (hv : ts.getD 0 undef = v)
    (hf : ∀ l k xs, r ≠ .sl (.fr l) k xs) : SR [] 1 F γ C [(0, r)] ah #[v] w := by
  subst hr; subst hv
  have hbk : ∀ p b, blk γ [(0, Am.get e 0)] ah #[ts.getD 0 undef] w p b → blk γ e ah ts w p b := by
    intro p b hp
    cases p with
    | obj s => exact hp
    | cell s i => exact hp
    | tmp t =>
      simp only [blk, Am.get] at hp ⊢
      split at hp
      · rename_i h0; subst h0; exact hp
      · simp [ownB] at hp
  refine ⟨h.mem, rfl, fun t => ?_, fun p q b hp hq => h.excl p q b (hbk p b hp) (hbk q b hq), fun p b hp => h.nf p b (hbk p b hp), h.flt, fun t l k xs htl => ?_⟩
  · by_cases h0 : 0 = t
    · subst h0; simp only [Am.get, if_true]; exact h.env 0
    · simp only [Am.get, if_neg h0]; exact ⟨.un .., by generalize (#[ts.getD 0 undef] : Array Value).getD t undef = u; cases u <;> trivial⟩
  · simp only [Am.get] at htl
    split at htl
    · exact absurd htl (hf l k xs)
    · cases htl
/-- slices.Grow of nil, as the shelf has it -/
theorem grow_calls {P : Program} {f : Nat} {n : Int} {H0 : AH} {el : TypeId} {z : Value} (hc : callable P f = true) (hz : z.cells.size = 1) (h0 : 0 ≤ n)
    (hroom : ∀ (base : Option Addr) (w : World), n = 0 → Calls P f #[.slice base 0 0, .int .i64 n] w fun e w' => e = .returned (.slice base 0 0) ∧ w' = w)
    (hgrow : ∀ (base : Option Addr) (w : World), 0 < n → Calls P f #[.slice base 0 0, .int .i64 n] w fun e w' => e = .returned (.slice (some ⟨w.heap.size, 0, none⟩) 0 (grownCap w n.toNat 0 el)) ∧
      w' = w.drew.alloc (.cells ((#[] : Array Value) ++ Builtin.zeroCells z.cells n.toNat ++ Builtin.zeroCells z.cells (grownCap w n.toNat 0 el - n.toNat)) el)) :
    ACalls P f [.sl .ex 1 [], .int .i64 n] H0 fun v H' => v = .sl .own 1 [] ∧ H' = H0 := by
  refine ⟨hc, fun F γ C w vs hs => ?_⟩
  have h1 := hs.env 0
  have h2 := (hs.env 1).1
  rw [get_argE] at h1 h2
  simp only [Nat.zero_le, if_true, Nat.sub_zero, List.getElem?_cons_zero, Option.getD_some] at h1
  simp only [Nat.zero_le, if_true, Nat.sub_zero, List.getElem?_cons_succ, List.getElem?_cons_zero, Option.getD_some] at h2
  obtain ⟨a, c, e1, -⟩ := h1.1.sl_inv
  rw [e1] at h1
  have hc0 : c = 0 := h1.2
  subst hc0
  have e2 := h2.int_inv
  have hvs : vs = #[.slice a 0 0, .int .i64 n] := by
    have hsz : vs.size = 2 := hs.sz
    apply Array.ext
    · simpa using hsz
    · intro i g1 g2
      have : i = 0 ∨ i = 1 := by omega
      rcases this with rfl | rfl
      · simpa [Array.getD_eq_getD_getElem?, Array.getElem?_eq_getElem g1] using e1
      · simpa [Array.getD_eq_getD_getElem?, Array.getElem?_eq_getElem g1] using e2
  by_cases hn : n = 0
  · rw [hvs]
    refine (hroom a w hn).mono ?_
    rintro en w' ⟨rfl, rfl⟩
    have hw : SR [] 2 F γ C (Am.put (argE 0 [.sl .ex 1 [], .int .i64 n]) 0 (.sl .own 1 [])) H0 vs w' := by
      refine hs.wx ⟨fun t => ?_, WxH.refl _⟩
      rw [get_put]
      split
      · rename_i ht; subst ht
        rw [get_argE]
        exact Wx.own _ _
      · refine Wx.same fun l k xs => ?_
        rw [get_argE]
        match t with
        | 0 => simp
        | 1 => simp
        | t + 2 => simp
    exact ⟨.sl .own 1 [], _, H0, γ, C, rfl, ⟨rfl, rfl⟩, List.prefix_refl _, hw.ret0 (by rw [get_put]; simp) (by rw [hvs]; rfl) (by simp), Ext.refl ..⟩
  · have hpos : 0 < n := by omega
    rw [hvs]
    refine (hgrow a w hpos).mono ?_
    rintro en w' ⟨rfl, rfl⟩
    generalize hcap : grownCap w n.toNat 0 el = cap
    have hge : n.toNat ≤ cap := by rw [← hcap]; exact grownCap_ge w _ _ _
    generalize hrow : (#[] : Array Value) ++ Builtin.zeroCells z.cells n.toNat ++ Builtin.zeroCells z.cells (cap - n.toNat) = row
    have hrl : row.size = cap := by
      rw [← hrow]; simp only [Array.size_append, size_zeroCells, hz]; simp; omega
    obtain ⟨q1, q2, q3⟩ := heap_alloc w.drew (.cells row el)
    obtain ⟨C', g1, g2, -, -⟩ := new_own (ds := []) (w' := w.drew.alloc (.cells row el)) (d := some 0) (con := []) (xs := []) (k := 1) (n := 0) (c := cap)
      hs (by intro x hx; injection hx with hx; subst hx; simp) q2 q3 q1 (by simp) (by simp) (by simp) rfl (Nat.zero_le _) (by omega) (fun q hq => by simp) (by simp) (by simp)
    refine ⟨.sl .own 1 [], _, H0, γ, C', rfl, ⟨rfl, rfl⟩, List.prefix_refl _, g1.ret0 ?_ ?_ (by simp), g2⟩
    · simp [Am.putv, get_put, AV.isOwn, AV.df]
    · rw [hvs]; rfl
end Go.Am
