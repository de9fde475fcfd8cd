import Derived.Test.YtfnnmecilcnloaaDoorAmM
import Derived.Test.YtfnnmecilcnloaaDoorAmFrz
import Derived.Test.YtfnnmecilcnloaaDoorAmG
set_option linter.unusedSimpArgs false
set_option linter.unusedVariables false
set_option linter.unusedSectionVars false
set_option linter.defProp false
namespace Go.Am
open Go
variable [Tabs]
theorem ev_t {e : Env} {n : Nat} : ev e (.t n) = Am.get e n := rfl
theorem ev_c {e : Env} {a : AV} : ev e (.c a) = a := rfl
theorem bI_none {e : Env} {n : Int} : bI e n none = .int .i64 n := rfl
theorem bI_some {e : Env} {n : Int} {x : Ar} : bI e n (some x) = ev e x := rfl
def WU := And.intro @U_nil <| And.intro @U_skip <| And.intro @U_ret <| And.intro @U_exit <| And.intro @U_seq <| And.intro @U_blk <| And.intro @U_rg <| And.intro @U_loop <| And.intro @U_sem <| And.intro @U_cond <| And.intro @U_keep <| And.intro @U_blk_n <| And.intro @U_blk_r <| And.intro @U_blk_x <| And.intro @U_code_r <| And.intro @U_code_x <| And.intro @U_ops_nil <| And.intro @U_ops <| And.intro @US_some <| And.intro @UG_false <| And.intro @UC_true <| And.intro @UC_false <| And.intro @UF_fn <| And.intro @g_none <| And.intro @g_some <| And.intro @gOf_bool <| And.intro @gOf_un <| And.intro @T_mv <| And.intro @T_asg <| And.intro @T_pick <| And.intro @T_alloc <| And.intro @T_box <| And.intro @T_build <| And.intro @T_bsl <| And.intro @S_lit <| And.intro @T_nck <| And.intro @T_fld <| And.intro @S_fldv <| And.intro @T_ld <| And.intro @S_lde <| And.intro @S_st <| And.intro @T_bin <| And.intro @T_bq <| And.intro @T_pq <| And.intro @T_seq <| And.intro @T_un <| And.intro @T_cvt <| And.intro @T_mkf <| And.intro @T_sls <| And.intro @T_slc <| And.intro @T_slc3 <| And.intro @T_ixa <| And.intro @T_ixs <| And.intro @S_ext <| And.intro @S_len <| And.intro @S_lens <| And.intro @T_app <| And.intro @T_apps <| @T_call
def WV := And.intro @ev_t <| And.intro @ev_c <| And.intro @ixsK_s <| And.intro @ixaK_s <| And.intro @slsK_s <| And.intro @slcK_s <| And.intro @slc3K_s <| And.intro @appK_s <| And.intro @appsK_s <| And.intro @aapp_s <| And.intro @aappO_s <| And.intro @bI_none <| And.intro @bI_some <| And.intro @B_add <| And.intro @B_sub <| And.intro @B_mul <| And.intro @B_quo <| And.intro @B_rem <| And.intro @B_and <| And.intro @B_or <| And.intro @B_xor <| And.intro @B_eql <| And.intro @B_neq <| And.intro @B_lss <| And.intro @B_leq <| And.intro @B_gtr <| And.intro @B_geq <| And.intro @B_cat <| And.intro @B_seq <| And.intro @B_sne <| And.intro @C_add <| And.intro @C_sub <| And.intro @C_and <| And.intro @C_or <| And.intro @C_xor <| And.intro @C_rem <| And.intro @C_eql <| And.intro @C_neq <| And.intro @C_lss <| And.intro @C_leq <| And.intro @C_gtr <| And.intro @C_geq <| And.intro @V_ci <| And.intro @V_ic <| And.intro @V_cc <| And.intro @V_i8 <| And.intro @V_i16 <| And.intro @V_i32 <| And.intro @V_i64 <| And.intro @V_u16 <| And.intro @V_u32 <| And.intro @V_u64 <| And.intro @V_ss <| And.intro @V_sb <| And.intro @V_bs <| And.intro @N_neg <| And.intro @N_not <| And.intro @N_xor <| And.intro @bytesOf_c <| And.intro @bytesOf_nil <| And.intro @bytesOf_ml <| And.intro @Q_i <| And.intro @Q_s <| And.intro @Q_b <| And.intro @Q_n <| And.intro @Q_bq <| And.intro @Q_p1 <| And.intro @Q_p2 <| And.intro @Q_p3 <| And.intro @b_Cl <| And.intro @b_ixs <| And.intro @b_ixa <| And.intro @b_ldE <| And.intro @idx_ml <| And.intro @sub_ml <| And.intro @sub3_ml <| And.intro @len_ml <| And.intro @h_new <| And.intro @h_sl <| And.intro @h_al <| And.intro @ldH_s <| And.intro @ldE_s <| And.intro @loadc_1 <| @loadc_n
theorem AX.of_U {P : Program} {L : List Nat} {N n0 : Nat} {K : Exit → Env → AH → Prop} {e : Env} {ah : AH} {m c : ACode} (hm : erase m = c) (ho : cOk N c = true) (h : U P L N n0 [.code m] K .normal e ah) : AX P L N n0 c K e ah := by
  subst hm
  exact fun c' hc' => codeW_ok c' m _ e ah hc' ho h
theorem Wx.boolE {a b : Bool} (h : a = b) : Wx (.bool a) (.bool b) := by subst h; exact Wx.bool
theorem Wx.intE {k : IntKind} {a b : Int} (h : a = b) : Wx (.int k a) (.int k b) := by subst h; exact Wx.int
theorem Wx.strE {a b : List UInt8} (h : a = b) : Wx (.str a) (.str b) := by subst h; exact Wx.str
theorem WxH.set0 {ah : AH} {q : Nat} {cs : List AV} (hq : ah[q]? = some cs) : WxH ah (ah.set q cs) := by
  rw [set_same hq]; exact WxH.refl _
theorem idx_m {α : Type} {f : α → AV} {xs : List α} {i : Int} {x : α} (h : idx xs i = some x) : idx (ml f xs) i = some (f x) := by rw [idx_ml, h]; rfl
theorem sub_m {α : Type} {f : α → AV} {xs ys : List α} {i j : Int} (h : sub xs i j = some ys) : sub (ml f xs) i j = some (ml f ys) := by rw [sub_ml, h]; rfl
theorem sub3_m {α : Type} {f : α → AV} {xs ys : List α} {i j m : Int} (h : sub3 xs i j m = some ys) : sub3 (ml f xs) i j m = some (ml f ys) := by rw [sub3_ml, h]; rfl
end Go.Am
namespace Go.Am
open Go
variable [Tabs]
section
variable {P : Program} {L : List Nat} {N n0 : Nat} {e : Env} {ah : AH} {t : List It} {Q : Exit → Env → AH → Prop} {r : List AOper}
theorem UC_t {a b : ACode} {B : Bool} (h : B = true) (hk : U P L N n0 (.code a :: t) Q .normal e ah) : UC P L N n0 a b t Q e ah (.bool B) := by subst h; exact hk
theorem UC_f {a b : ACode} {B : Bool} (h : B = false) (hk : U P L N n0 (.code b :: t) Q .normal e ah) : UC P L N n0 a b t Q e ah (.bool B) := by subst h; exact hk
theorem UG_go {o : AOper} {B want : Bool} (h : B = want) (hk : UG P L N n0 o r t Q e ah (some true)) : UG P L N n0 o r t Q e ah (some (B == want)) := by subst h; simpa using hk
theorem UG_no {o : AOper} {B want : Bool} (h : B = !want) (hk : U P L N n0 (.ops r :: t) Q .normal (drop? e o.d) ah) : UG P L N n0 o r t Q e ah (some (B == want)) := by
  subst h; cases want <;> exact hk
theorem UG_nt {o : AOper} {B : Bool} (h : B = false) (hk : U P L N n0 (.ops r :: t) Q .normal (drop? e o.d) ah) : UG P L N n0 o r t Q e ah (some (B == true)) := UG_no h hk
theorem UG_nf {o : AOper} {B : Bool} (h : B = true) (hk : U P L N n0 (.ops r :: t) Q .normal (drop? e o.d) ah) : UG P L N n0 o r t Q e ah (some (B == false)) := UG_no h hk
end
theorem bcases (B : Bool) : B = true ∨ B = false := by cases B <;> simp
theorem bq1 : (true == true) = true := rfl
theorem bq2 : (true == false) = false := rfl
theorem bq3 : (false == true) = false := rfl
theorem bq4 : (false == false) = true := rfl
def WB := And.intro @bq1 <| And.intro @bq2 <| And.intro @bq3 <| And.intro @bq4 <| And.intro @Bool.and_true <| And.intro @Bool.true_and <| And.intro @Bool.and_false <| And.intro @Bool.false_and <| And.intro @Bool.or_true <| And.intro @Bool.true_or <| And.intro @Bool.or_false <| And.intro @Bool.false_or <| And.intro @Bool.not_true <| And.intro @Bool.not_false <| And.intro @decide_true <| And.intro @decide_false <| And.intro @and_true <| And.intro @true_and <| And.intro @and_self <| And.intro @and_false <| And.intro @false_and <| And.intro @Nat.zero_add <| And.intro @Nat.add_zero <| And.intro @Nat.succ_ne_zero <| And.intro @Nat.lt_irrefl <| And.intro @Bool.false_eq_true <| And.intro @List.contains_cons.{0} <| And.intro @List.contains_nil.{0} <| And.intro @List.take_succ_cons.{0} <| And.intro @List.take_zero.{0} <| And.intro @List.drop_succ_cons.{0} <| And.intro @List.drop_zero.{0} <| And.intro @List.length_cons.{0} <| And.intro @List.length_nil.{0} <| And.intro @List.getElem?_cons_zero.{0} <| And.intro @List.getElem?_cons_succ.{0} <| And.intro @List.getElem?_nil.{0} <| And.intro @List.cons_append.{0} <| And.intro @List.nil_append.{0} <| And.intro @List.append_nil.{0} <| And.intro @List.all_cons.{0} <| And.intro @List.all_nil.{0} <| And.intro @List.set_cons_zero.{0} <| And.intro @List.set_cons_succ.{0} <| And.intro @List.isEmpty_cons.{0} <| And.intro @List.isEmpty_nil.{0} <| And.intro @List.map_cons.{0,0} <| And.intro @List.map_nil.{0,0} <| And.intro @Option.map_some.{0,0} <| And.intro @Option.map_none.{0,0} <| @Option.bind_some.{0,0}
end Go.Am
namespace Go.Am
open Go
variable [Tabs]
section
variable {P : Program} {e' : Env} {H0 H' : AH} {rs : List ResultVar} {vs : List AV} {r' : AV} {R : AV → AH → Prop}
theorem fn_endp (hcl : ClH H0.length H0) (hr : resv P e' H0 rs = some vs) (hc : Cl H0.length (fin vs)) (hw : Wx (fin vs) r') (hR : R r' H0) : FnEnd P H0 rs R e' H0 :=
  ⟨vs, r', H0, hr, hw, hR, .inl ⟨hc, by rw [List.take_length]; exact hcl, Nat.le_refl _, by rw [List.take_length]; exact WxH.refl _⟩⟩
theorem fn_end0 (hf : Fr H0 H0.length [] H') (hcl : ClH H0.length H0) (hr : resv P e' H' rs = some vs) (hc : Cl H0.length (fin vs)) (hw : Wx (fin vs) r') (hR : R r' H0) : FnEnd P H0 rs R e' H' :=
  ⟨vs, r', H0, hr, hw, hR, .inl ⟨hc, by rw [hf.end0]; exact hcl, hf.le, by rw [hf.end0]; exact WxH.refl _⟩⟩
theorem fn_endB (hr : resv P e' H' rs = some vs) (hw : Wx (fin vs) r') {ah' : AH} (hh : WxH H' ah') (hR : R r' ah') : FnEnd P H0 rs R e' H' :=
  ⟨vs, r', ah', hr, hw, hR, .inr hh⟩
theorem fn_end1 {s : Nat} {c c' : List AV} (hf : Fr H0 H0.length [s] H') (hcl : ClH H0.length H0) (hr : resv P e' H' rs = some vs) (hc : Cl H0.length (fin vs)) (hw : Wx (fin vs) r')
    (hs : H'[s]? = some c) (hl : s < H0.length) (hcc : ∀ a ∈ c, Cl H0.length a) (hwc : WxC c c') (hR : R r' (H0.set s c')) : FnEnd P H0 rs R e' H' := by
  refine ⟨vs, r', H0.set s c', hr, hw, hR, .inl ⟨hc, by rw [hf.end1 hs hl]; exact hcl.set hcc, hf.le, ?_⟩⟩
  rw [hf.end1 hs hl]
  have := WxH.set (ah := H0.set s c) (q := s) (cs' := c') (h_eq hl) hwc
  rwa [List.set_set] at this
theorem WxH.trans {a b c : AH} (h1 : WxH a b) (h2 : ∀ (s : Nat) (cs' : List AV), c[s]? = some cs' → ∃ cs, b[s]? = some cs ∧ (cs' = cs ∨ (WxC cs cs' ∧ a[s]? = some cs))) (hl : c.length = b.length) : WxH a c := by
  refine ⟨by rw [hl, h1.1], fun s cs' hs => ?_⟩
  obtain ⟨cs, hb, rfl | ⟨hw, ha⟩⟩ := h2 s cs' hs
  · exact h1.2 s _ hb
  · exact ⟨cs, ha, .inr hw⟩
theorem WxH.set2 {ah : AH} {q q2 : Nat} {cs cs' ds ds' : List AV} (hne : q ≠ q2) (hq : ah[q]? = some cs) (hc : WxC cs cs') (hq2 : ah[q2]? = some ds) (hd : WxC ds ds') : WxH ah ((ah.set q cs').set q2 ds') := by
  refine WxH.trans (WxH.set hq hc) (fun s es hs => ?_) (by simp)
  rw [List.getElem?_set] at hs
  split at hs
  · rename_i h; subst h
    split at hs
    · injection hs with hs; subst hs
      exact ⟨ds, by rw [List.getElem?_set_ne hne]; exact hq2, .inr ⟨hd, hq2⟩⟩
    · cases hs
  · exact ⟨es, hs, .inl rfl⟩
theorem fn_end2 {s s2 : Nat} {c c' d d' : List AV} (hf : Fr H0 H0.length [s, s2] H') (hcl : ClH H0.length H0) (hr : resv P e' H' rs = some vs) (hc : Cl H0.length (fin vs)) (hw : Wx (fin vs) r')
    (hs : H'[s]? = some c) (hl : s < H0.length) (hcc : ∀ a ∈ c, Cl H0.length a) (hwc : WxC c c') (hs2 : H'[s2]? = some d) (hl2 : s2 < H0.length) (hcc2 : ∀ a ∈ d, Cl H0.length a) (hwc2 : WxC d d') (hne : s ≠ s2)
    (hR : R r' ((H0.set s c').set s2 d')) : FnEnd P H0 rs R e' H' := by
  refine ⟨vs, r', (H0.set s c').set s2 d', hr, hw, hR, .inl ⟨hc, by rw [hf.end2 hs hs2 hl hl2 hne]; exact (hcl.set hcc).set hcc2, hf.le, ?_⟩⟩
  rw [hf.end2 hs hs2 hl hl2 hne]
  have := WxH.set2 (ah := (H0.set s c).set s2 d) (q := s) (q2 := s2) (cs := c) (cs' := c') (ds := d) (ds' := d') hne (by rw [List.getElem?_set_ne (Ne.symm hne)]; exact h_eq hl) hwc (h_eq (by simpa using hl2)) hwc2
  have e1 : (((H0.set s c).set s2 d).set s c').set s2 d' = (H0.set s c').set s2 d' := by
    rw [List.set_comm d c' (Ne.symm hne), List.set_set, List.set_set]
  rwa [e1] at this
end
theorem Fr.trans {ah H H' : AH} {n0 : Nat} {S S2 : List Nat} (h : Fr ah n0 S H) (h2 : Fr H H.length S2 H') (hs : ∀ s ∈ S2, s ∈ S ∨ n0 ≤ s) : Fr ah n0 S H' := by
  have h3 := h.le
  refine ⟨Nat.le_trans h.le h2.le, fun j hj hjS => ?_⟩
  rw [h2.eq j (by omega), h.eq j hj hjS]
  intro hm
  rcases hs j hm with h4 | h4
  · exact hjS h4
  · omega
end Go.Am
namespace Go.Am
open Go
variable [Tabs]
theorem UK_e {P : Program} {L : List Nat} {N n0 : Nat} {e : Env} {ah : AH} {t : List It} {Q : Exit → Env → AH → Prop} {r : List AOper} {d : Option Nat} {f : Nat} {as as' : List AV} {ah1 HE : AH} {V : AV}
    (h : ACalls P f as' ah1 fun v H' => v = V ∧ H' = HE) (hw : WL as as') (hh : WxH ah ah1) (hk : U P L N n0 (.ops r :: t) Q .normal (putv L (unC e) d V.df) HE) : UK P L N n0 f as d r t Q e ah := by
  refine UK_x h hw hh ?_
  rintro _ _ ⟨rfl, rfl⟩
  exact hk
end Go.Am
namespace Go.Am
open Go
variable [Tabs]
def WW := And.intro WG <| And.intro WM <| And.intro WU <| And.intro WV <| And.intro WB <| And.intro WA0 <| And.intro WA1 <| And.intro WA2 <| And.intro WA3 <| And.intro WA4 <| And.intro WA5 WA6
def WH := And.intro @h_eq <| And.intro @h_ne <| And.intro @h_app @h_new'
theorem tg1 : Tg.sh .ex = .ex := rfl
theorem tg2 : Tg.sh .own = .n := rfl
theorem tg3 : Tg.sh .n = .n := rfl
end Go.Am
