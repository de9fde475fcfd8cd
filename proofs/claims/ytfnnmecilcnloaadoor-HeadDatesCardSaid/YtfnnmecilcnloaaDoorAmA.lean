import Derived.Test.YtfnnmecilcnloaaDoorAmS
set_option linter.unusedSimpArgs false
set_option linter.unusedVariables false
set_option linter.unusedSectionVars false
set_option linter.defProp false
namespace Go.Am
open Go
variable [Tabs]
def errv : Bool → AV
  | true => .ifc
  | false => .v .nilIface
def lenK (L : List Nat) (e : Env) (ah : AH) (d : Option Nat) : AV → Option (Env × AH)
  | .sl _ _ xs => some (putv L e d (.int .i64 xs.length), ah)
  | .msl _ _ _ n => some (putv L e d (.int .i64 n), ah)
  | .gsl _ _ n _ => some (putv L e d (.int .i64 n), ah)
  | _ => none
def lensK (L : List Nat) (e : Env) (ah : AH) (d : Option Nat) : AV → Option (Env × AH)
  | .str l => some (putv L e d (.int .i64 l.length), ah)
  | _ => none
def extO (L : List Nat) (e : Env) (ah : AH) (d : Option Nat) : Option AV → Option (Env × AH)
  | some a => some (putv L e d a.sh, ah)
  | none => none
def extK (L : List Nat) (e : Env) (ah : AH) (d : Option Nat) (i : Nat) : AV → Option (Env × AH)
  | .tup cs => extO L e ah d (cs[i]?)
  | _ => none
def fldvO (L : List Nat) (e : Env) (ah : AH) (d : Option Nat) : Option AV → Option (Env × AH)
  | some a => some (putv L e d a.sh1, ah)
  | none => none
def fldvK (L : List Nat) (e : Env) (ah : AH) (d : Option Nat) (q : Nat) : Option Nat → AV → Option (Env × AH)
  | some n, .agg cs => if q + n ≤ cs.length then some (putv L e d (.agg (((cs.drop q).take n).map AV.sh1)), ah) else none
  | none, .agg cs => fldvO L e ah d (cs[q]?)
  | _, _ => none
def ldeK (L : List Nat) (e : Env) (ah : AH) (d : Option Nat) (n : Option Nat) : AV → Option (Env × AH)
  | .ep a p => ldK L d n e ah (.ep a p)
  | _ => none
theorem A_sh1_v {z : Value} : AV.sh1 (.v z) = (.v z : AV) := rfl
theorem A_sh1_int {k : IntKind} {i : Int} : AV.sh1 (.int k i) = (.int k i : AV) := rfl
theorem A_sh1_bool {b : Bool} : AV.sh1 (.bool b) = (.bool b : AV) := rfl
theorem A_sh1_str {l : List UInt8} : AV.sh1 (.str l) = (.str l : AV) := rfl
theorem A_sh1_ptr {s o : Nat} : AV.sh1 (.ptr s o) = (.ptr s o : AV) := rfl
theorem A_sh1_ep {a : AV} {o : Nat} : AV.sh1 (.ep a o) = (.ep a o : AV) := rfl
theorem A_sh1_fn {f : Nat} {cs : List AV} : AV.sh1 (.fn f cs) = (.fn f cs : AV) := rfl
theorem A_sh1_un  : AV.sh1 (.un) = (.un : AV) := rfl
theorem A_sh1_b8 {c : UInt8} : AV.sh1 (b8 c) = (b8 c : AV) := rfl
theorem A_sh1_sn {k : Nat} {xs : List AV} : AV.sh1 (.sl .n k xs) = (.sl .n k xs : AV) := rfl
theorem A_sh1_sex {k : Nat} {xs : List AV} : AV.sh1 (.sl .ex k xs) = (.sl .ex k xs : AV) := rfl
theorem A_sh1_sown {k : Nat} {xs : List AV} : AV.sh1 (.sl .own k xs) = (.sl .n k xs : AV) := rfl
theorem A_sh1_sfr {l : Loc} {k : Nat} {xs : List AV} : AV.sh1 (.sl (.fr l) k xs) = (.sl .n k xs : AV) := rfl
theorem A_sh1_agg {cs : List AV} : AV.sh1 (.agg cs) = (.agg cs : AV) := rfl
theorem A_sh1_tup {cs : List AV} : AV.sh1 (.tup cs) = (.tup cs : AV) := rfl
theorem A_sh1_msl {q0 k0 o0 m0 : Nat} : AV.sh1 (.msl q0 k0 o0 m0) = (.msl q0 k0 o0 m0 : AV) := rfl
theorem A_sh1_gsl {q0 k0 m0 c0 : Nat} : AV.sh1 (.gsl q0 k0 m0 c0) = (.gsl q0 k0 m0 c0 : AV) := rfl
theorem A_sh1_ifc  : AV.sh1 (.ifc) = (.ifc : AV) := rfl
theorem A_sh1_er {eb : Bool} : AV.sh1 (errv eb) = (errv eb : AV) := by cases eb <;> rfl
theorem A_sh_v {z : Value} : AV.sh (.v z) = (.v z : AV) := rfl
theorem A_sh_int {k : IntKind} {i : Int} : AV.sh (.int k i) = (.int k i : AV) := rfl
theorem A_sh_bool {b : Bool} : AV.sh (.bool b) = (.bool b : AV) := rfl
theorem A_sh_str {l : List UInt8} : AV.sh (.str l) = (.str l : AV) := rfl
theorem A_sh_ptr {s o : Nat} : AV.sh (.ptr s o) = (.ptr s o : AV) := rfl
theorem A_sh_ep {a : AV} {o : Nat} : AV.sh (.ep a o) = (.ep a o : AV) := rfl
theorem A_sh_fn {f : Nat} {cs : List AV} : AV.sh (.fn f cs) = (.fn f cs : AV) := rfl
theorem A_sh_un  : AV.sh (.un) = (.un : AV) := rfl
theorem A_sh_b8 {c : UInt8} : AV.sh (b8 c) = (b8 c : AV) := rfl
theorem A_sh_sn {k : Nat} {xs : List AV} : AV.sh (.sl .n k xs) = (.sl .n k xs : AV) := rfl
theorem A_sh_sex {k : Nat} {xs : List AV} : AV.sh (.sl .ex k xs) = (.sl .ex k xs : AV) := rfl
theorem A_sh_sown {k : Nat} {xs : List AV} : AV.sh (.sl .own k xs) = (.sl .n k xs : AV) := rfl
theorem A_sh_sfr {l : Loc} {k : Nat} {xs : List AV} : AV.sh (.sl (.fr l) k xs) = (.sl .n k xs : AV) := rfl
theorem A_sh_agg {cs : List AV} : AV.sh (.agg cs) = (.agg (cs.map AV.sh1) : AV) := rfl
theorem A_sh_tup {cs : List AV} : AV.sh (.tup cs) = (.tup (cs.map AV.sh1) : AV) := rfl
theorem A_sh_msl {q0 k0 o0 m0 : Nat} : AV.sh (.msl q0 k0 o0 m0) = (.msl q0 k0 o0 m0 : AV) := rfl
theorem A_sh_gsl {q0 k0 m0 c0 : Nat} : AV.sh (.gsl q0 k0 m0 c0) = (.gsl q0 k0 m0 c0 : AV) := rfl
theorem A_sh_ifc  : AV.sh (.ifc) = (.ifc : AV) := rfl
theorem A_sh_er {eb : Bool} : AV.sh (errv eb) = (errv eb : AV) := by cases eb <;> rfl
theorem A_s1_v {z : Value} : AV.s1 (.v z) = (.v z : AV) := rfl
theorem A_s1_int {k : IntKind} {i : Int} : AV.s1 (.int k i) = (.int k i : AV) := rfl
theorem A_s1_bool {b : Bool} : AV.s1 (.bool b) = (.bool b : AV) := rfl
theorem A_s1_str {l : List UInt8} : AV.s1 (.str l) = (.str l : AV) := rfl
theorem A_s1_ptr {s o : Nat} : AV.s1 (.ptr s o) = (.ptr s o : AV) := rfl
theorem A_s1_ep {a : AV} {o : Nat} : AV.s1 (.ep a o) = (.ep a o : AV) := rfl
theorem A_s1_fn {f : Nat} {cs : List AV} : AV.s1 (.fn f cs) = (.fn f cs : AV) := rfl
theorem A_s1_un  : AV.s1 (.un) = (.un : AV) := rfl
theorem A_s1_b8 {c : UInt8} : AV.s1 (b8 c) = (b8 c : AV) := rfl
theorem A_s1_sn {k : Nat} {xs : List AV} : AV.s1 (.sl .n k xs) = (.sl .n k xs : AV) := rfl
theorem A_s1_sex {k : Nat} {xs : List AV} : AV.s1 (.sl .ex k xs) = (.sl .n k xs : AV) := rfl
theorem A_s1_sown {k : Nat} {xs : List AV} : AV.s1 (.sl .own k xs) = (.sl .n k xs : AV) := rfl
theorem A_s1_sfr {l : Loc} {k : Nat} {xs : List AV} : AV.s1 (.sl (.fr l) k xs) = (.sl .n k xs : AV) := rfl
theorem A_s1_agg {cs : List AV} : AV.s1 (.agg cs) = (.agg cs : AV) := rfl
theorem A_s1_tup {cs : List AV} : AV.s1 (.tup cs) = (.tup cs : AV) := rfl
theorem A_s1_msl {q0 k0 o0 m0 : Nat} : AV.s1 (.msl q0 k0 o0 m0) = (.msl q0 k0 o0 m0 : AV) := rfl
theorem A_s1_gsl {q0 k0 m0 c0 : Nat} : AV.s1 (.gsl q0 k0 m0 c0) = (.gsl q0 k0 m0 c0 : AV) := rfl
theorem A_s1_ifc  : AV.s1 (.ifc) = (.ifc : AV) := rfl
theorem A_s1_er {eb : Bool} : AV.s1 (errv eb) = (errv eb : AV) := by cases eb <;> rfl
theorem A_s0_v {z : Value} : AV.s0 (.v z) = (.v z : AV) := rfl
theorem A_s0_int {k : IntKind} {i : Int} : AV.s0 (.int k i) = (.int k i : AV) := rfl
theorem A_s0_bool {b : Bool} : AV.s0 (.bool b) = (.bool b : AV) := rfl
theorem A_s0_str {l : List UInt8} : AV.s0 (.str l) = (.str l : AV) := rfl
theorem A_s0_ptr {s o : Nat} : AV.s0 (.ptr s o) = (.ptr s o : AV) := rfl
theorem A_s0_ep {a : AV} {o : Nat} : AV.s0 (.ep a o) = (.ep a o : AV) := rfl
theorem A_s0_fn {f : Nat} {cs : List AV} : AV.s0 (.fn f cs) = (.fn f cs : AV) := rfl
theorem A_s0_un  : AV.s0 (.un) = (.un : AV) := rfl
theorem A_s0_b8 {c : UInt8} : AV.s0 (b8 c) = (b8 c : AV) := rfl
theorem A_s0_sn {k : Nat} {xs : List AV} : AV.s0 (.sl .n k xs) = (.sl .n k xs : AV) := rfl
theorem A_s0_sex {k : Nat} {xs : List AV} : AV.s0 (.sl .ex k xs) = (.sl .n k xs : AV) := rfl
theorem A_s0_sown {k : Nat} {xs : List AV} : AV.s0 (.sl .own k xs) = (.sl .n k xs : AV) := rfl
theorem A_s0_sfr {l : Loc} {k : Nat} {xs : List AV} : AV.s0 (.sl (.fr l) k xs) = (.sl .n k xs : AV) := rfl
theorem A_s0_agg {cs : List AV} : AV.s0 (.agg cs) = (.agg (cs.map AV.s1) : AV) := rfl
theorem A_s0_tup {cs : List AV} : AV.s0 (.tup cs) = (.tup cs : AV) := rfl
theorem A_s0_msl {q0 k0 o0 m0 : Nat} : AV.s0 (.msl q0 k0 o0 m0) = (.msl q0 k0 o0 m0 : AV) := rfl
theorem A_s0_gsl {q0 k0 m0 c0 : Nat} : AV.s0 (.gsl q0 k0 m0 c0) = (.gsl q0 k0 m0 c0 : AV) := rfl
theorem A_s0_ifc  : AV.s0 (.ifc) = (.ifc : AV) := rfl
theorem A_s0_er {eb : Bool} : AV.s0 (errv eb) = (errv eb : AV) := by cases eb <;> rfl
theorem A_df_v {z : Value} : AV.df (.v z) = (.v z : AV) := rfl
theorem A_df_int {k : IntKind} {i : Int} : AV.df (.int k i) = (.int k i : AV) := rfl
theorem A_df_bool {b : Bool} : AV.df (.bool b) = (.bool b : AV) := rfl
theorem A_df_str {l : List UInt8} : AV.df (.str l) = (.str l : AV) := rfl
theorem A_df_ptr {s o : Nat} : AV.df (.ptr s o) = (.ptr s o : AV) := rfl
theorem A_df_ep {a : AV} {o : Nat} : AV.df (.ep a o) = (.ep a o : AV) := rfl
theorem A_df_fn {f : Nat} {cs : List AV} : AV.df (.fn f cs) = (.fn f cs : AV) := rfl
theorem A_df_un  : AV.df (.un) = (.un : AV) := rfl
theorem A_df_b8 {c : UInt8} : AV.df (b8 c) = (b8 c : AV) := rfl
theorem A_df_sn {k : Nat} {xs : List AV} : AV.df (.sl .n k xs) = (.sl .n k xs : AV) := rfl
theorem A_df_sex {k : Nat} {xs : List AV} : AV.df (.sl .ex k xs) = (.sl .ex k xs : AV) := rfl
theorem A_df_sown {k : Nat} {xs : List AV} : AV.df (.sl .own k xs) = (.sl .own k xs : AV) := rfl
theorem A_df_sfr {l : Loc} {k : Nat} {xs : List AV} : AV.df (.sl (.fr l) k xs) = (.sl .n k xs : AV) := rfl
theorem A_df_agg {cs : List AV} : AV.df (.agg cs) = (.agg cs : AV) := rfl
theorem A_df_tup {cs : List AV} : AV.df (.tup cs) = (.tup cs : AV) := rfl
theorem A_df_msl {q0 k0 o0 m0 : Nat} : AV.df (.msl q0 k0 o0 m0) = (.msl q0 k0 o0 m0 : AV) := rfl
theorem A_df_gsl {q0 k0 m0 c0 : Nat} : AV.df (.gsl q0 k0 m0 c0) = (.gsl q0 k0 m0 c0 : AV) := rfl
theorem A_df_ifc  : AV.df (.ifc) = (.ifc : AV) := rfl
theorem A_df_er {eb : Bool} : AV.df (errv eb) = (errv eb : AV) := by cases eb <;> rfl
theorem A_isOwn_v {z : Value} : AV.isOwn (.v z) = false := rfl
theorem A_isOwn_int {k : IntKind} {i : Int} : AV.isOwn (.int k i) = false := rfl
theorem A_isOwn_bool {b : Bool} : AV.isOwn (.bool b) = false := rfl
theorem A_isOwn_str {l : List UInt8} : AV.isOwn (.str l) = false := rfl
theorem A_isOwn_ptr {s o : Nat} : AV.isOwn (.ptr s o) = false := rfl
theorem A_isOwn_ep {a : AV} {o : Nat} : AV.isOwn (.ep a o) = false := rfl
theorem A_isOwn_fn {f : Nat} {cs : List AV} : AV.isOwn (.fn f cs) = false := rfl
theorem A_isOwn_un  : AV.isOwn (.un) = false := rfl
theorem A_isOwn_b8 {c : UInt8} : AV.isOwn (b8 c) = false := rfl
theorem A_isOwn_sn {k : Nat} {xs : List AV} : AV.isOwn (.sl .n k xs) = false := rfl
theorem A_isOwn_sex {k : Nat} {xs : List AV} : AV.isOwn (.sl .ex k xs) = false := rfl
theorem A_isOwn_sown {k : Nat} {xs : List AV} : AV.isOwn (.sl .own k xs) = true := rfl
theorem A_isOwn_sfr {l : Loc} {k : Nat} {xs : List AV} : AV.isOwn (.sl (.fr l) k xs) = false := rfl
theorem A_isOwn_agg {cs : List AV} : AV.isOwn (.agg cs) = false := rfl
theorem A_isOwn_tup {cs : List AV} : AV.isOwn (.tup cs) = false := rfl
theorem A_isOwn_msl {q0 k0 o0 m0 : Nat} : AV.isOwn (.msl q0 k0 o0 m0) = false := rfl
theorem A_isOwn_gsl {q0 k0 m0 c0 : Nat} : AV.isOwn (.gsl q0 k0 m0 c0) = false := rfl
theorem A_isOwn_ifc  : AV.isOwn (.ifc) = false := rfl
theorem A_isOwn_er {eb : Bool} : AV.isOwn (errv eb) = false := by cases eb <;> rfl
theorem A_dis_v {z : Value} : AV.dis (.v z) = (.v z : AV) := rfl
theorem A_dis_int {k : IntKind} {i : Int} : AV.dis (.int k i) = (.int k i : AV) := rfl
theorem A_dis_bool {b : Bool} : AV.dis (.bool b) = (.bool b : AV) := rfl
theorem A_dis_str {l : List UInt8} : AV.dis (.str l) = (.str l : AV) := rfl
theorem A_dis_ptr {s o : Nat} : AV.dis (.ptr s o) = (.ptr s o : AV) := rfl
theorem A_dis_ep {a : AV} {o : Nat} : AV.dis (.ep a o) = (.ep a o : AV) := rfl
theorem A_dis_fn {f : Nat} {cs : List AV} : AV.dis (.fn f cs) = (.fn f cs : AV) := rfl
theorem A_dis_un  : AV.dis (.un) = (.un : AV) := rfl
theorem A_dis_b8 {c : UInt8} : AV.dis (b8 c) = (b8 c : AV) := rfl
theorem A_dis_sn {k : Nat} {xs : List AV} : AV.dis (.sl .n k xs) = (.sl .n k xs : AV) := rfl
theorem A_dis_sex {k : Nat} {xs : List AV} : AV.dis (.sl .ex k xs) = (.sl .ex k xs : AV) := rfl
theorem A_dis_sown {k : Nat} {xs : List AV} : AV.dis (.sl .own k xs) = (.sl .n k xs : AV) := rfl
theorem A_dis_sfr {l : Loc} {k : Nat} {xs : List AV} : AV.dis (.sl (.fr l) k xs) = (.sl (.fr l) k xs : AV) := rfl
theorem A_dis_agg {cs : List AV} : AV.dis (.agg cs) = (.agg cs : AV) := rfl
theorem A_dis_tup {cs : List AV} : AV.dis (.tup cs) = (.tup cs : AV) := rfl
theorem A_dis_msl {q0 k0 o0 m0 : Nat} : AV.dis (.msl q0 k0 o0 m0) = (.msl q0 k0 o0 m0 : AV) := rfl
theorem A_dis_gsl {q0 k0 m0 c0 : Nat} : AV.dis (.gsl q0 k0 m0 c0) = (.gsl q0 k0 m0 c0 : AV) := rfl
theorem A_dis_ifc  : AV.dis (.ifc) = (.ifc : AV) := rfl
theorem A_dis_er {eb : Bool} : AV.dis (errv eb) = (errv eb : AV) := by cases eb <;> rfl
theorem A_unfr_v {z : Value} {l0 : Loc} : AV.unfr l0 (.v z) = (.v z : AV) := rfl
theorem A_unfr_int {k : IntKind} {i : Int} {l0 : Loc} : AV.unfr l0 (.int k i) = (.int k i : AV) := rfl
theorem A_unfr_bool {b : Bool} {l0 : Loc} : AV.unfr l0 (.bool b) = (.bool b : AV) := rfl
theorem A_unfr_str {l : List UInt8} {l0 : Loc} : AV.unfr l0 (.str l) = (.str l : AV) := rfl
theorem A_unfr_ptr {s o : Nat} {l0 : Loc} : AV.unfr l0 (.ptr s o) = (.ptr s o : AV) := rfl
theorem A_unfr_ep {a : AV} {o : Nat} {l0 : Loc} : AV.unfr l0 (.ep a o) = (.ep a o : AV) := rfl
theorem A_unfr_fn {f : Nat} {cs : List AV} {l0 : Loc} : AV.unfr l0 (.fn f cs) = (.fn f cs : AV) := rfl
theorem A_unfr_un  {l0 : Loc} : AV.unfr l0 (.un) = (.un : AV) := rfl
theorem A_unfr_b8 {c : UInt8} {l0 : Loc} : AV.unfr l0 (b8 c) = (b8 c : AV) := rfl
theorem A_unfr_sn {k : Nat} {xs : List AV} {l0 : Loc} : AV.unfr l0 (.sl .n k xs) = (.sl .n k xs : AV) := rfl
theorem A_unfr_sex {k : Nat} {xs : List AV} {l0 : Loc} : AV.unfr l0 (.sl .ex k xs) = (.sl .ex k xs : AV) := rfl
theorem A_unfr_sown {k : Nat} {xs : List AV} {l0 : Loc} : AV.unfr l0 (.sl .own k xs) = (.sl .own k xs : AV) := rfl
theorem A_unfr_sfr {l : Loc} {k : Nat} {xs : List AV} {l0 : Loc} : AV.unfr l0 (.sl (.fr l) k xs) = if l = l0 then .sl .n k xs else .sl (.fr l) k xs := rfl
theorem A_unfr_agg {cs : List AV} {l0 : Loc} : AV.unfr l0 (.agg cs) = (.agg cs : AV) := rfl
theorem A_unfr_tup {cs : List AV} {l0 : Loc} : AV.unfr l0 (.tup cs) = (.tup cs : AV) := rfl
theorem A_unfr_msl {q0 k0 o0 m0 : Nat} {l0 : Loc} : AV.unfr l0 (.msl q0 k0 o0 m0) = (.msl q0 k0 o0 m0 : AV) := rfl
theorem A_unfr_gsl {q0 k0 m0 c0 : Nat} {l0 : Loc} : AV.unfr l0 (.gsl q0 k0 m0 c0) = (.gsl q0 k0 m0 c0 : AV) := rfl
theorem A_unfr_ifc  {l0 : Loc} : AV.unfr l0 (.ifc) = (.ifc : AV) := rfl
theorem A_unfr_er {eb : Bool} {l0 : Loc} : AV.unfr l0 (errv eb) = (errv eb : AV) := by cases eb <;> rfl
theorem A_unc_v {z : Value} : AV.unc (.v z) = (.v z : AV) := rfl
theorem A_unc_int {k : IntKind} {i : Int} : AV.unc (.int k i) = (.int k i : AV) := rfl
theorem A_unc_bool {b : Bool} : AV.unc (.bool b) = (.bool b : AV) := rfl
theorem A_unc_str {l : List UInt8} : AV.unc (.str l) = (.str l : AV) := rfl
theorem A_unc_ptr {s o : Nat} : AV.unc (.ptr s o) = (.ptr s o : AV) := rfl
theorem A_unc_ep {a : AV} {o : Nat} : AV.unc (.ep a o) = (.ep a o : AV) := rfl
theorem A_unc_fn {f : Nat} {cs : List AV} : AV.unc (.fn f cs) = (.fn f cs : AV) := rfl
theorem A_unc_un  : AV.unc (.un) = (.un : AV) := rfl
theorem A_unc_b8 {c : UInt8} : AV.unc (b8 c) = (b8 c : AV) := rfl
theorem A_unc_sn {k : Nat} {xs : List AV} : AV.unc (.sl .n k xs) = (.sl .n k xs : AV) := rfl
theorem A_unc_sex {k : Nat} {xs : List AV} : AV.unc (.sl .ex k xs) = (.sl .ex k xs : AV) := rfl
theorem A_unc_sown {k : Nat} {xs : List AV} : AV.unc (.sl .own k xs) = (.sl .own k xs : AV) := rfl
theorem A_unc_agg {cs : List AV} : AV.unc (.agg cs) = (.agg cs : AV) := rfl
theorem A_unc_tup {cs : List AV} : AV.unc (.tup cs) = (.tup cs : AV) := rfl
theorem A_unc_msl {q0 k0 o0 m0 : Nat} : AV.unc (.msl q0 k0 o0 m0) = (.msl q0 k0 o0 m0 : AV) := rfl
theorem A_unc_gsl {q0 k0 m0 c0 : Nat} : AV.unc (.gsl q0 k0 m0 c0) = (.gsl q0 k0 m0 c0 : AV) := rfl
theorem A_unc_ifc  : AV.unc (.ifc) = (.ifc : AV) := rfl
theorem A_unc_er {eb : Bool} : AV.unc (errv eb) = (errv eb : AV) := by cases eb <;> rfl
theorem A_unc_c {a b k : Nat} {xs : List AV} : AV.unc (.sl (.fr (.cell a b)) k xs) = .sl .n k xs := rfl
theorem A_unc_t {a k : Nat} {xs : List AV} : AV.unc (.sl (.fr (.tmp a)) k xs) = .sl (.fr (.tmp a)) k xs := rfl
theorem A_cells_v {z : Value} : AV.cells (.v z) = [.v z] := rfl
theorem A_cells_int {k : IntKind} {i : Int} : AV.cells (.int k i) = [.int k i] := rfl
theorem A_cells_bool {b : Bool} : AV.cells (.bool b) = [.bool b] := rfl
theorem A_cells_str {l : List UInt8} : AV.cells (.str l) = [.str l] := rfl
theorem A_cells_ptr {s o : Nat} : AV.cells (.ptr s o) = [.ptr s o] := rfl
theorem A_cells_ep {a : AV} {o : Nat} : AV.cells (.ep a o) = [.ep a o] := rfl
theorem A_cells_fn {f : Nat} {cs : List AV} : AV.cells (.fn f cs) = [.fn f cs] := rfl
theorem A_cells_un  : AV.cells (.un) = [.un] := rfl
theorem A_cells_b8 {c : UInt8} : AV.cells (b8 c) = [b8 c] := rfl
theorem A_cells_sn {k : Nat} {xs : List AV} : AV.cells (.sl .n k xs) = [.sl .n k xs] := rfl
theorem A_cells_sex {k : Nat} {xs : List AV} : AV.cells (.sl .ex k xs) = [.sl .ex k xs] := rfl
theorem A_cells_sown {k : Nat} {xs : List AV} : AV.cells (.sl .own k xs) = [.sl .own k xs] := rfl
theorem A_cells_sfr {l : Loc} {k : Nat} {xs : List AV} : AV.cells (.sl (.fr l) k xs) = [.sl (.fr l) k xs] := rfl
theorem A_cells_agg {cs : List AV} : AV.cells (.agg cs) = cs := rfl
theorem A_cells_tup {cs : List AV} : AV.cells (.tup cs) = [.tup cs] := rfl
theorem A_cells_msl {q0 k0 o0 m0 : Nat} : AV.cells (.msl q0 k0 o0 m0) = [.msl q0 k0 o0 m0] := rfl
theorem A_cells_gsl {q0 k0 m0 c0 : Nat} : AV.cells (.gsl q0 k0 m0 c0) = [.gsl q0 k0 m0 c0] := rfl
theorem A_cells_ifc  : AV.cells (.ifc) = [.ifc] := rfl
theorem A_cells_er {eb : Bool} : AV.cells (errv eb) = [errv eb] := by cases eb <;> rfl
theorem A_ok1_v {z : Value} : AV.ok1 (.v z) = true := rfl
theorem A_ok1_int {k : IntKind} {i : Int} : AV.ok1 (.int k i) = true := rfl
theorem A_ok1_bool {b : Bool} : AV.ok1 (.bool b) = true := rfl
theorem A_ok1_str {l : List UInt8} : AV.ok1 (.str l) = true := rfl
theorem A_ok1_ptr {s o : Nat} : AV.ok1 (.ptr s o) = true := rfl
theorem A_ok1_ep {a : AV} {o : Nat} : AV.ok1 (.ep a o) = true := rfl
theorem A_ok1_fn {f : Nat} {cs : List AV} : AV.ok1 (.fn f cs) = true := rfl
theorem A_ok1_un  : AV.ok1 (.un) = false := rfl
theorem A_ok1_b8 {c : UInt8} : AV.ok1 (b8 c) = true := rfl
theorem A_ok1_sn {k : Nat} {xs : List AV} : AV.ok1 (.sl .n k xs) = true := rfl
theorem A_ok1_sex {k : Nat} {xs : List AV} : AV.ok1 (.sl .ex k xs) = true := rfl
theorem A_ok1_sown {k : Nat} {xs : List AV} : AV.ok1 (.sl .own k xs) = true := rfl
theorem A_ok1_sfr {l : Loc} {k : Nat} {xs : List AV} : AV.ok1 (.sl (.fr l) k xs) = true := rfl
theorem A_ok1_agg {cs : List AV} : AV.ok1 (.agg cs) = false := rfl
theorem A_ok1_tup {cs : List AV} : AV.ok1 (.tup cs) = false := rfl
theorem A_ok1_msl {q0 k0 o0 m0 : Nat} : AV.ok1 (.msl q0 k0 o0 m0) = true := rfl
theorem A_ok1_gsl {q0 k0 m0 c0 : Nat} : AV.ok1 (.gsl q0 k0 m0 c0) = true := rfl
theorem A_ok1_ifc  : AV.ok1 (.ifc) = true := rfl
theorem A_ok1_er {eb : Bool} : AV.ok1 (errv eb) = true := by cases eb <;> rfl
theorem A_flat_v {z : Value} : AV.flat (.v z) = true := rfl
theorem A_flat_int {k : IntKind} {i : Int} : AV.flat (.int k i) = true := rfl
theorem A_flat_bool {b : Bool} : AV.flat (.bool b) = true := rfl
theorem A_flat_str {l : List UInt8} : AV.flat (.str l) = true := rfl
theorem A_flat_ptr {s o : Nat} : AV.flat (.ptr s o) = true := rfl
theorem A_flat_ep {a : AV} {o : Nat} : AV.flat (.ep a o) = true := rfl
theorem A_flat_fn {f : Nat} {cs : List AV} : AV.flat (.fn f cs) = true := rfl
theorem A_flat_un  : AV.flat (.un) = true := rfl
theorem A_flat_b8 {c : UInt8} : AV.flat (b8 c) = true := rfl
theorem A_flat_sn {k : Nat} {xs : List AV} : AV.flat (.sl .n k xs) = true := rfl
theorem A_flat_sex {k : Nat} {xs : List AV} : AV.flat (.sl .ex k xs) = true := rfl
theorem A_flat_sown {k : Nat} {xs : List AV} : AV.flat (.sl .own k xs) = true := rfl
theorem A_flat_sfr {l : Loc} {k : Nat} {xs : List AV} : AV.flat (.sl (.fr l) k xs) = true := rfl
theorem A_flat_agg {cs : List AV} : AV.flat (.agg cs) = false := rfl
theorem A_flat_tup {cs : List AV} : AV.flat (.tup cs) = false := rfl
theorem A_flat_msl {q0 k0 o0 m0 : Nat} : AV.flat (.msl q0 k0 o0 m0) = true := rfl
theorem A_flat_gsl {q0 k0 m0 c0 : Nat} : AV.flat (.gsl q0 k0 m0 c0) = true := rfl
theorem A_flat_ifc  : AV.flat (.ifc) = true := rfl
theorem A_flat_er {eb : Bool} : AV.flat (errv eb) = true := by cases eb <;> rfl
theorem A_np_v {z : Value} : AV.np (.v z) = true := rfl
theorem A_np_int {k : IntKind} {i : Int} : AV.np (.int k i) = true := rfl
theorem A_np_bool {b : Bool} : AV.np (.bool b) = true := rfl
theorem A_np_str {l : List UInt8} : AV.np (.str l) = true := rfl
theorem A_np_ptr {s o : Nat} : AV.np (.ptr s o) = false := rfl
theorem A_np_ep {a : AV} {o : Nat} : AV.np (.ep a o) = true := rfl
theorem A_np_fn {f : Nat} {cs : List AV} : AV.np (.fn f cs) = cs.isEmpty := rfl
theorem A_np_un  : AV.np (.un) = true := rfl
theorem A_np_b8 {c : UInt8} : AV.np (b8 c) = true := rfl
theorem A_np_sn {k : Nat} {xs : List AV} : AV.np (.sl .n k xs) = true := rfl
theorem A_np_sex {k : Nat} {xs : List AV} : AV.np (.sl .ex k xs) = true := rfl
theorem A_np_sown {k : Nat} {xs : List AV} : AV.np (.sl .own k xs) = true := rfl
theorem A_np_sfr {l : Loc} {k : Nat} {xs : List AV} : AV.np (.sl (.fr l) k xs) = true := rfl
theorem A_np_agg {cs : List AV} : AV.np (.agg cs) = false := rfl
theorem A_np_tup {cs : List AV} : AV.np (.tup cs) = false := rfl
theorem A_np_msl {q0 k0 o0 m0 : Nat} : AV.np (.msl q0 k0 o0 m0) = false := rfl
theorem A_np_gsl {q0 k0 m0 c0 : Nat} : AV.np (.gsl q0 k0 m0 c0) = false := rfl
theorem A_np_ifc  : AV.np (.ifc) = true := rfl
theorem A_np_er {eb : Bool} : AV.np (errv eb) = true := by cases eb <;> rfl
theorem A_isTup_v {z : Value} : AV.isTup (.v z) = false := rfl
theorem A_isTup_int {k : IntKind} {i : Int} : AV.isTup (.int k i) = false := rfl
theorem A_isTup_bool {b : Bool} : AV.isTup (.bool b) = false := rfl
theorem A_isTup_str {l : List UInt8} : AV.isTup (.str l) = false := rfl
theorem A_isTup_ptr {s o : Nat} : AV.isTup (.ptr s o) = false := rfl
theorem A_isTup_ep {a : AV} {o : Nat} : AV.isTup (.ep a o) = false := rfl
theorem A_isTup_fn {f : Nat} {cs : List AV} : AV.isTup (.fn f cs) = false := rfl
theorem A_isTup_un  : AV.isTup (.un) = false := rfl
theorem A_isTup_b8 {c : UInt8} : AV.isTup (b8 c) = false := rfl
theorem A_isTup_sn {k : Nat} {xs : List AV} : AV.isTup (.sl .n k xs) = false := rfl
theorem A_isTup_sex {k : Nat} {xs : List AV} : AV.isTup (.sl .ex k xs) = false := rfl
theorem A_isTup_sown {k : Nat} {xs : List AV} : AV.isTup (.sl .own k xs) = false := rfl
theorem A_isTup_sfr {l : Loc} {k : Nat} {xs : List AV} : AV.isTup (.sl (.fr l) k xs) = false := rfl
theorem A_isTup_agg {cs : List AV} : AV.isTup (.agg cs) = false := rfl
theorem A_isTup_tup {cs : List AV} : AV.isTup (.tup cs) = true := rfl
theorem A_isTup_msl {q0 k0 o0 m0 : Nat} : AV.isTup (.msl q0 k0 o0 m0) = false := rfl
theorem A_isTup_gsl {q0 k0 m0 c0 : Nat} : AV.isTup (.gsl q0 k0 m0 c0) = false := rfl
theorem A_isTup_ifc  : AV.isTup (.ifc) = false := rfl
theorem A_isTup_er {eb : Bool} : AV.isTup (errv eb) = false := by cases eb <;> rfl
theorem A_cp_v {L : List Nat} {x : Ar} {z : Value} : cp L x (.v z) = .v z := rfl
theorem A_cp_int {L : List Nat} {x : Ar} {k : IntKind} {i : Int} : cp L x (.int k i) = .int k i := rfl
theorem A_cp_bool {L : List Nat} {x : Ar} {b : Bool} : cp L x (.bool b) = .bool b := rfl
theorem A_cp_str {L : List Nat} {x : Ar} {l : List UInt8} : cp L x (.str l) = .str l := rfl
theorem A_cp_ptr {L : List Nat} {x : Ar} {s o : Nat} : cp L x (.ptr s o) = .ptr s o := rfl
theorem A_cp_ep {L : List Nat} {x : Ar} {a : AV} {o : Nat} : cp L x (.ep a o) = .ep a o := rfl
theorem A_cp_fn {L : List Nat} {x : Ar} {f : Nat} {cs : List AV} : cp L x (.fn f cs) = .fn f cs := rfl
theorem A_cp_un {L : List Nat} {x : Ar}  : cp L x (.un) = .un := rfl
theorem A_cp_b8 {L : List Nat} {x : Ar} {c : UInt8} : cp L x (b8 c) = b8 c := rfl
theorem A_cp_sn {L : List Nat} {x : Ar} {k : Nat} {xs : List AV} : cp L x (.sl .n k xs) = .sl .n k xs := rfl
theorem A_cp_sex {L : List Nat} {x : Ar} {k : Nat} {xs : List AV} : cp L x (.sl .ex k xs) = .sl .ex k xs := rfl
theorem A_cp_sfr {L : List Nat} {x : Ar} {l : Loc} {k : Nat} {xs : List AV} : cp L x (.sl (.fr l) k xs) = .sl (.fr l) k xs := rfl
theorem A_cp_agg {L : List Nat} {x : Ar} {cs : List AV} : cp L x (.agg cs) = .agg (cs.map AV.sh1) := rfl
theorem A_cp_tup {L : List Nat} {x : Ar} {cs : List AV} : cp L x (.tup cs) = .tup (cs.map AV.sh1) := rfl
theorem A_cp_msl {L : List Nat} {x : Ar} {q0 k0 o0 m0 : Nat} : cp L x (.msl q0 k0 o0 m0) = .msl q0 k0 o0 m0 := rfl
theorem A_cp_gsl {L : List Nat} {x : Ar} {q0 k0 m0 c0 : Nat} : cp L x (.gsl q0 k0 m0 c0) = .gsl q0 k0 m0 c0 := rfl
theorem A_cp_ifc {L : List Nat} {x : Ar}  : cp L x (.ifc) = .ifc := rfl
theorem A_cp_er {L : List Nat} {x : Ar} {eb : Bool} : cp L x (errv eb) = errv eb := by cases eb <;> rfl
theorem A_cp_ot {L : List Nat} {u k : Nat} {xs : List AV} : cp L (.t u) (.sl .own k xs) = if L.contains u then .sl (.fr (.tmp u)) k xs else .sl .n k xs := rfl
theorem A_cp_oc {L : List Nat} {a : AV} {k : Nat} {xs : List AV} : cp L (.c a) (.sl .own k xs) = .sl .n k xs := rfl
theorem A_asg_v {P : Program} {L : List Nat} {N n0 : Nat} {e : Env} {ah : AH} {t : List It} {Q : Exit → Env → AH → Prop} {r : List AOper} {d : Option Nat} {x : Ar} {z : Value} : asgK P L N n0 e ah d r t Q x (.v z) = U P L N n0 (.ops r :: t) Q .normal (putv L e d (cp L x (.v z))) ah := rfl
theorem A_asg_int {P : Program} {L : List Nat} {N n0 : Nat} {e : Env} {ah : AH} {t : List It} {Q : Exit → Env → AH → Prop} {r : List AOper} {d : Option Nat} {x : Ar} {k : IntKind} {i : Int} : asgK P L N n0 e ah d r t Q x (.int k i) = U P L N n0 (.ops r :: t) Q .normal (putv L e d (cp L x (.int k i))) ah := rfl
theorem A_asg_bool {P : Program} {L : List Nat} {N n0 : Nat} {e : Env} {ah : AH} {t : List It} {Q : Exit → Env → AH → Prop} {r : List AOper} {d : Option Nat} {x : Ar} {b : Bool} : asgK P L N n0 e ah d r t Q x (.bool b) = U P L N n0 (.ops r :: t) Q .normal (putv L e d (cp L x (.bool b))) ah := rfl
theorem A_asg_str {P : Program} {L : List Nat} {N n0 : Nat} {e : Env} {ah : AH} {t : List It} {Q : Exit → Env → AH → Prop} {r : List AOper} {d : Option Nat} {x : Ar} {l : List UInt8} : asgK P L N n0 e ah d r t Q x (.str l) = U P L N n0 (.ops r :: t) Q .normal (putv L e d (cp L x (.str l))) ah := rfl
theorem A_asg_ptr {P : Program} {L : List Nat} {N n0 : Nat} {e : Env} {ah : AH} {t : List It} {Q : Exit → Env → AH → Prop} {r : List AOper} {d : Option Nat} {x : Ar} {s o : Nat} : asgK P L N n0 e ah d r t Q x (.ptr s o) = U P L N n0 (.ops r :: t) Q .normal (putv L e d (cp L x (.ptr s o))) ah := rfl
theorem A_asg_ep {P : Program} {L : List Nat} {N n0 : Nat} {e : Env} {ah : AH} {t : List It} {Q : Exit → Env → AH → Prop} {r : List AOper} {d : Option Nat} {x : Ar} {a : AV} {o : Nat} : asgK P L N n0 e ah d r t Q x (.ep a o) = U P L N n0 (.ops r :: t) Q .normal (putv L e d (cp L x (.ep a o))) ah := rfl
theorem A_asg_fn {P : Program} {L : List Nat} {N n0 : Nat} {e : Env} {ah : AH} {t : List It} {Q : Exit → Env → AH → Prop} {r : List AOper} {d : Option Nat} {x : Ar} {f : Nat} {cs : List AV} : asgK P L N n0 e ah d r t Q x (.fn f cs) = U P L N n0 (.ops r :: t) Q .normal (putv L e d (cp L x (.fn f cs))) ah := rfl
theorem A_asg_un {P : Program} {L : List Nat} {N n0 : Nat} {e : Env} {ah : AH} {t : List It} {Q : Exit → Env → AH → Prop} {r : List AOper} {d : Option Nat} {x : Ar}  : asgK P L N n0 e ah d r t Q x (.un) = U P L N n0 (.ops r :: t) Q .normal (putv L e d (cp L x (.un))) ah := rfl
theorem A_asg_b8 {P : Program} {L : List Nat} {N n0 : Nat} {e : Env} {ah : AH} {t : List It} {Q : Exit → Env → AH → Prop} {r : List AOper} {d : Option Nat} {x : Ar} {c : UInt8} : asgK P L N n0 e ah d r t Q x (b8 c) = U P L N n0 (.ops r :: t) Q .normal (putv L e d (cp L x (b8 c))) ah := rfl
theorem A_asg_sn {P : Program} {L : List Nat} {N n0 : Nat} {e : Env} {ah : AH} {t : List It} {Q : Exit → Env → AH → Prop} {r : List AOper} {d : Option Nat} {x : Ar} {k : Nat} {xs : List AV} : asgK P L N n0 e ah d r t Q x (.sl .n k xs) = U P L N n0 (.ops r :: t) Q .normal (putv L e d (cp L x (.sl .n k xs))) ah := rfl
theorem A_asg_sex {P : Program} {L : List Nat} {N n0 : Nat} {e : Env} {ah : AH} {t : List It} {Q : Exit → Env → AH → Prop} {r : List AOper} {d : Option Nat} {x : Ar} {k : Nat} {xs : List AV} : asgK P L N n0 e ah d r t Q x (.sl .ex k xs) = U P L N n0 (.ops r :: t) Q .normal (putv L e d (cp L x (.sl .ex k xs))) ah := rfl
theorem A_asg_sfr {P : Program} {L : List Nat} {N n0 : Nat} {e : Env} {ah : AH} {t : List It} {Q : Exit → Env → AH → Prop} {r : List AOper} {d : Option Nat} {x : Ar} {l : Loc} {k : Nat} {xs : List AV} : asgK P L N n0 e ah d r t Q x (.sl (.fr l) k xs) = U P L N n0 (.ops r :: t) Q .normal (putv L e d (cp L x (.sl (.fr l) k xs))) ah := rfl
theorem A_asg_agg {P : Program} {L : List Nat} {N n0 : Nat} {e : Env} {ah : AH} {t : List It} {Q : Exit → Env → AH → Prop} {r : List AOper} {d : Option Nat} {x : Ar} {cs : List AV} : asgK P L N n0 e ah d r t Q x (.agg cs) = U P L N n0 (.ops r :: t) Q .normal (putv L e d (cp L x (.agg cs))) ah := rfl
theorem A_asg_tup {P : Program} {L : List Nat} {N n0 : Nat} {e : Env} {ah : AH} {t : List It} {Q : Exit → Env → AH → Prop} {r : List AOper} {d : Option Nat} {x : Ar} {cs : List AV} : asgK P L N n0 e ah d r t Q x (.tup cs) = U P L N n0 (.ops r :: t) Q .normal (putv L e d (cp L x (.tup cs))) ah := rfl
theorem A_asg_msl {P : Program} {L : List Nat} {N n0 : Nat} {e : Env} {ah : AH} {t : List It} {Q : Exit → Env → AH → Prop} {r : List AOper} {d : Option Nat} {x : Ar} {q0 k0 o0 m0 : Nat} : asgK P L N n0 e ah d r t Q x (.msl q0 k0 o0 m0) = U P L N n0 (.ops r :: t) Q .normal (putv L e d (cp L x (.msl q0 k0 o0 m0))) ah := rfl
theorem A_asg_gsl {P : Program} {L : List Nat} {N n0 : Nat} {e : Env} {ah : AH} {t : List It} {Q : Exit → Env → AH → Prop} {r : List AOper} {d : Option Nat} {x : Ar} {q0 k0 m0 c0 : Nat} : asgK P L N n0 e ah d r t Q x (.gsl q0 k0 m0 c0) = U P L N n0 (.ops r :: t) Q .normal (putv L e d (cp L x (.gsl q0 k0 m0 c0))) ah := rfl
theorem A_asg_ifc {P : Program} {L : List Nat} {N n0 : Nat} {e : Env} {ah : AH} {t : List It} {Q : Exit → Env → AH → Prop} {r : List AOper} {d : Option Nat} {x : Ar}  : asgK P L N n0 e ah d r t Q x (.ifc) = U P L N n0 (.ops r :: t) Q .normal (putv L e d (cp L x (.ifc))) ah := rfl
theorem A_asg_er {P : Program} {L : List Nat} {N n0 : Nat} {e : Env} {ah : AH} {t : List It} {Q : Exit → Env → AH → Prop} {r : List AOper} {d : Option Nat} {x : Ar} {eb : Bool} : asgK P L N n0 e ah d r t Q x (errv eb) = U P L N n0 (.ops r :: t) Q .normal (putv L e d (cp L x (errv eb))) ah := by cases eb <;> rfl
theorem A_asg_ot {P : Program} {L : List Nat} {N n0 : Nat} {e : Env} {ah : AH} {t : List It} {Q : Exit → Env → AH → Prop} {r : List AOper} {d : Option Nat} {y k : Nat} {xs : List AV} : asgK P L N n0 e ah d r t Q (.t y) (.sl .own k xs) = U P L N n0 (.ops r :: t) Q .normal (putv L (put e y (.sl .n k xs)) d (.sl .own k xs)) ah := rfl
theorem A_asg_oc {P : Program} {L : List Nat} {N n0 : Nat} {e : Env} {ah : AH} {t : List It} {Q : Exit → Env → AH → Prop} {r : List AOper} {d : Option Nat} {a : AV} {k : Nat} {xs : List AV} : asgK P L N n0 e ah d r t Q (.c a) (.sl .own k xs) = U P L N n0 (.ops r :: t) Q .normal (putv L e d (cp L (.c a) (.sl .own k xs))) ah := rfl
theorem A_pick_t {L : List Nat} {e : Env} {ah : AH} {d : Option Nat} {a b : Ar} : pickK L e ah d a b (.bool true) = some (putv L e d (ev e a).sh, ah) := rfl
theorem A_pick_f {L : List Nat} {e : Env} {ah : AH} {d : Option Nat} {a b : Ar} : pickK L e ah d a b (.bool false) = some (putv L e d (ev e b).sh, ah) := rfl
theorem A_nck_ptr {L : List Nat} {e : Env} {ah : AH} {d : Option Nat} {s o : Nat} : nckK L e ah d (.ptr s o) = some (putv L e d (.ptr s o), ah) := rfl
theorem A_nck_ep {L : List Nat} {e : Env} {ah : AH} {d : Option Nat} {a : AV} {o : Nat} : nckK L e ah d (.ep a o) = some (putv L e d (.ep a o), ah) := rfl
theorem A_fld_ptr {L : List Nat} {e : Env} {ah : AH} {d : Option Nat} {q s o : Nat} : fldK L e ah d q (.ptr s o) = some (putv L e d (.ptr s (o + q)), ah) := rfl
theorem A_fld_ep {L : List Nat} {e : Env} {ah : AH} {d : Option Nat} {q o : Nat} {a : AV} : fldK L e ah d q (.ep a o) = some (putv L e d (.ep a (o + q)), ah) := rfl
theorem A_ld_ptr {L : List Nat} {e : Env} {ah : AH} {d : Option Nat} {n : Option Nat} {s o : Nat} : ldK L d n e ah (.ptr s o) = ldH L d n s o e ah (ah[s]?) := rfl
theorem A_ld_e0 {L : List Nat} {e : Env} {ah : AH} {d : Option Nat} {o : Nat} {a : AV} : ldK L d none e ah (.ep a o) = ldE L d e ah (a.cells[o]?) := rfl
theorem A_ld_e1 {L : List Nat} {e : Env} {ah : AH} {d : Option Nat} {n o : Nat} {a : AV} : ldK L d (some n) e ah (.ep a o) = if o + n ≤ a.cells.length ∧ allFlat ((a.cells.drop o).take n) then some (putv L e d (.agg (((a.cells.drop o).take n).map AV.s1)), ah) else none := rfl
theorem A_ld1_v {s1 o1 : Nat} {z : Value} : ld1 s1 o1 (some (.v z)) = some (AV.sh1 (.v z)) := rfl
theorem A_ld1_int {s1 o1 : Nat} {k : IntKind} {i : Int} : ld1 s1 o1 (some (.int k i)) = some (AV.sh1 (.int k i)) := rfl
theorem A_ld1_bool {s1 o1 : Nat} {b : Bool} : ld1 s1 o1 (some (.bool b)) = some (AV.sh1 (.bool b)) := rfl
theorem A_ld1_str {s1 o1 : Nat} {l : List UInt8} : ld1 s1 o1 (some (.str l)) = some (AV.sh1 (.str l)) := rfl
theorem A_ld1_ptr {s1 o1 : Nat} {s o : Nat} : ld1 s1 o1 (some (.ptr s o)) = some (AV.sh1 (.ptr s o)) := rfl
theorem A_ld1_ep {s1 o1 : Nat} {a : AV} {o : Nat} : ld1 s1 o1 (some (.ep a o)) = some (AV.sh1 (.ep a o)) := rfl
theorem A_ld1_fn {s1 o1 : Nat} {f : Nat} {cs : List AV} : ld1 s1 o1 (some (.fn f cs)) = some (AV.sh1 (.fn f cs)) := rfl
theorem A_ld1_un {s1 o1 : Nat}  : ld1 s1 o1 (some (.un)) = some (AV.sh1 (.un)) := rfl
theorem A_ld1_b8 {s1 o1 : Nat} {c : UInt8} : ld1 s1 o1 (some (b8 c)) = some (AV.sh1 (b8 c)) := rfl
theorem A_ld1_sn {s1 o1 : Nat} {k : Nat} {xs : List AV} : ld1 s1 o1 (some (.sl .n k xs)) = some (AV.sh1 (.sl .n k xs)) := rfl
theorem A_ld1_sex {s1 o1 : Nat} {k : Nat} {xs : List AV} : ld1 s1 o1 (some (.sl .ex k xs)) = some (AV.sh1 (.sl .ex k xs)) := rfl
theorem A_ld1_own {s o k : Nat} {xs : List AV} : ld1 s o (some (.sl .own k xs)) = some (.sl (.fr (.cell s o)) k xs) := rfl
theorem A_ld1_sfr {s1 o1 : Nat} {l : Loc} {k : Nat} {xs : List AV} : ld1 s1 o1 (some (.sl (.fr l) k xs)) = some (AV.sh1 (.sl (.fr l) k xs)) := rfl
theorem A_ld1_msl {s1 o1 : Nat} {q0 k0 o0 m0 : Nat} : ld1 s1 o1 (some (.msl q0 k0 o0 m0)) = some (AV.sh1 (.msl q0 k0 o0 m0)) := rfl
theorem A_ld1_gsl {s1 o1 : Nat} {q0 k0 m0 c0 : Nat} : ld1 s1 o1 (some (.gsl q0 k0 m0 c0)) = some (AV.sh1 (.gsl q0 k0 m0 c0)) := rfl
theorem A_ld1_ifc {s1 o1 : Nat}  : ld1 s1 o1 (some (.ifc)) = some (AV.sh1 (.ifc)) := rfl
theorem A_ld1_er {s1 o1 : Nat} {eb : Bool} : ld1 s1 o1 (some (errv eb)) = some (AV.sh1 (errv eb)) := by cases eb <;> rfl
theorem A_seqK {L : List Nat} {e : Env} {ah : AH} {d : Option Nat} {ks : List Pk} {neq : Bool} {as bs : List AV} : seqK L e ah d ks neq (.agg as) (.agg bs) = (seqb ks as bs).map fun b => (putv L e d (.bool (if neq then !b else b)), ah) := rfl
theorem A_slsI {L : List Nat} {e : Env} {ah : AH} {d : Option Nat} {l : List UInt8} {k k2 : IntKind} {i j : Int} : slsI L e ah d l (.int k i) (.int k2 j) = (sub l i j).map fun m => (putv L e d (.str m), ah) := rfl
theorem A_slcI {L : List Nat} {e : Env} {ah : AH} {d : Option Nat} {q : Nat} {xs : List AV} {k k2 : IntKind} {i j : Int} : slcI L e ah d q xs (.int k i) (.int k2 j) = (sub xs i j).map fun ys => (putv L e d (.sl .n q ys), ah) := rfl
theorem A_slc3I {L : List Nat} {e : Env} {ah : AH} {d : Option Nat} {q : Nat} {xs : List AV} {k k2 k3 : IntKind} {i j m : Int} : slc3I L e ah d q xs (.int k i) (.int k2 j) (.int k3 m) = (sub3 xs i j m).map fun ys => (putv L e d (.sl .ex q ys), ah) := rfl
theorem A_aappV {L : List Nat} {e : Env} {ah : AH} {d : Option Nat} {k b : Nat} {x : Ar} {ys xs : List AV} {tg : Tg} : aappV L e ah d k b x ys (.sl tg k xs) = aappO L e ah d k x xs tg (capp b xs ys) := by simp [aappV]
theorem A_aT_ex {L : List Nat} {e : Env} {ah : AH} {d : Option Nat} {k : Nat} {x : Ar} {xs zs : List AV} : aappT L e ah d k x xs zs .ex = some (putv L e d (.sl .own k zs), ah) := rfl
theorem A_aT_own {L : List Nat} {e : Env} {ah : AH} {d : Option Nat} {k y : Nat} {xs zs : List AV} : aappT L e ah d k (.t y) xs zs .own = some (putv L (put e y (.sl .n k xs)) d (.sl .own k zs), ah) := rfl
def aTt (L : List Nat) (e : Env) (ah : AH) (d : Option Nat) (k u : Nat) (zs : List AV) : AV → Option (Env × AH)
  | .sl .own k' us => if k' = k then some (putv L (put e u (.sl .n k' us)) d (.sl .own k zs), ah) else none
  | _ => none
def aTc (L : List Nat) (e : Env) (ah : AH) (d : Option Nat) (k s q : Nat) (zs cs : List AV) : Option AV → Option (Env × AH)
  | some (.sl .own k' us) => if k' = k then (over cs q [.sl .n k' us]).map fun cs => (putv L e d (.sl .own k zs), ah.set s cs) else none
  | _ => none
def aTh (L : List Nat) (e : Env) (ah : AH) (d : Option Nat) (k s q : Nat) (zs : List AV) : Option (List AV) → Option (Env × AH)
  | some cs => aTc L e ah d k s q zs cs (cs[q]?)
  | none => none
theorem A_aT_t {L : List Nat} {e : Env} {ah : AH} {d : Option Nat} {k u : Nat} {x : Ar} {xs zs : List AV} : aappT L e ah d k x xs zs (.fr (.tmp u)) = aTt L e ah d k u zs (Am.get e u) := by simp only [aappT]; cases Am.get e u with | sl tg k2 us => cases tg <;> rfl | _ => rfl
theorem A_aT_c {L : List Nat} {e : Env} {ah : AH} {d : Option Nat} {k s q : Nat} {x : Ar} {xs zs : List AV} : aappT L e ah d k x xs zs (.fr (.cell s q)) = aTh L e ah d k s q zs (ah[s]?) := by simp only [aappT]; cases ah[s]? with | none => rfl | some cs => simp only [aTh]; cases cs[q]? with | none => rfl | some a => cases a with | sl tg k2 us => cases tg <;> rfl | _ => rfl
theorem A_aTt {L : List Nat} {e : Env} {ah : AH} {d : Option Nat} {k u : Nat} {zs us : List AV} : aTt L e ah d k u zs (.sl .own k us) = some (putv L (put e u (.sl .n k us)) d (.sl .own k zs), ah) := by simp [aTt]
theorem A_aTh {L : List Nat} {e : Env} {ah : AH} {d : Option Nat} {k s q : Nat} {zs cs : List AV} : aTh L e ah d k s q zs (some cs) = aTc L e ah d k s q zs cs (cs[q]?) := rfl
theorem A_aTc {L : List Nat} {e : Env} {ah : AH} {d : Option Nat} {k s q : Nat} {zs cs us : List AV} : aTc L e ah d k s q zs cs (some (.sl .own k us)) = (over cs q [.sl .n k us]).map fun cs => (putv L e d (.sl .own k zs), ah.set s cs) := by simp [aTc]
theorem A_fl0  : allFlat [] = true := rfl
theorem A_fl1 {a : AV} {r : List AV} : allFlat (a :: r) = (a.flat && allFlat r) := rfl
theorem A_ok0  : allOk [] = true := rfl
theorem A_ok {a : AV} {r : List AV} : allOk (a :: r) = (a.ok1 && allOk r) := rfl
theorem A_np0  : allNp [] = true := rfl
theorem A_np {a : AV} {r : List AV} : allNp (a :: r) = (a.np && allNp r) := rfl
theorem A_g0 {t : Nat} : Am.get [] t = .un := rfl
theorem A_g1 {i t : Nat} {a : AV} {r : Env} : Am.get ((i, a) :: r) t = if i = t then a else Am.get r t := rfl
theorem A_p0 {d : Nat} {a : AV} : put [] d a = [(d, a)] := rfl
theorem A_p1 {i d : Nat} {a b : AV} {r : Env} : put ((i, b) :: r) d a = if i = d then (d, a) :: r else if d < i then (d, a) :: (i, b) :: r else (i, b) :: put r d a := rfl
theorem A_k0 {L : List Nat} : keep L [] = [] := rfl
theorem A_k1 {L : List Nat} {i : Nat} {a : AV} {r : Env} : keep L ((i, a) :: r) = if L.contains i then (i, a) :: keep L r else keep L r := rfl
theorem A_s0 {l : Loc} : sweep l [] = [] := rfl
theorem A_s1 {l : Loc} {i : Nat} {a : AV} {r : Env} : sweep l ((i, a) :: r) = (i, a.unfr l) :: sweep l r := rfl
theorem A_u0  : unC [] = [] := rfl
theorem A_u1 {i : Nat} {a : AV} {r : Env} : unC ((i, a) :: r) = (i, a.unc) :: unC r := rfl
theorem A_dn {e : Env} : drop? e none = e := rfl
theorem A_ds {e : Env} {d : Nat} : drop? e (some d) = put e d (.tup []) := rfl
theorem A_pn {L : List Nat} {e : Env} {a : AV} : putv L e none a = e := rfl
theorem A_ps {L : List Nat} {e : Env} {d : Nat} {a : AV} : putv L e (some d) a = if L.contains d then (if a.isOwn then put (sweep (.tmp d) e) d a else put e d a.df) else put e d a := rfl
theorem A_e0 {i : Nat} : argE i [] = [] := rfl
theorem A_e1 {i : Nat} {a : AV} {r : List AV} : argE i (a :: r) = (i, a) :: argE (i + 1) r := rfl
theorem A_ii {k : IntKind} {i : Int} : iint k i = .int k i := rfl
theorem A_Lt {a b : Nat} : (Loc.tmp a = Loc.tmp b) = (a = b) := by simp
theorem A_Lc {a b c d : Nat} : (Loc.cell a b = Loc.cell c d) = (a = c ∧ b = d) := by simp
theorem A_Ltc {a c d : Nat} : (Loc.tmp a = Loc.cell c d) = False := by simp
theorem A_Lct {a c d : Nat} : (Loc.cell c d = Loc.tmp a) = False := by simp
def stw (e : Env) (ah : AH) (s p n : Nat) (x : Ar) (cs : List AV) : AV → Option (Env × AH)
  | .sl .own k xs => match x with
    | .t y => if n = 1 then (over cs p [.sl .own k xs]).map fun cs => (sweep (.cell s p) (put e y (.sl .n k xs)), ah.set s cs) else none
    | .c a => if (AV.sl .own k xs).cells.length = n ∧ allOk (AV.sl .own k xs).cells then (over cs p ((AV.sl .own k xs).cells.map AV.sh1)).map fun cs => (e, ah.set s cs) else none
  | w => if w.cells.length = n ∧ allOk w.cells then (over cs p (w.cells.map AV.sh1)).map fun cs => (e, ah.set s cs) else none
def sth (e : Env) (ah : AH) (s p n : Nat) (x : Ar) : Option (List AV) → Option (Env × AH)
  | some cs => stw e ah s p n x cs (ev e x)
  | none => none
def stK (e : Env) (ah : AH) (n : Nat) (x : Ar) : AV → Option (Env × AH)
  | .ptr s p => sth e ah s p n x (ah[s]?)
  | _ => none
theorem S_st {P : Program} {L : List Nat} {N n0 : Nat} {e : Env} {ah : AH} {t : List It} {Q : Exit → Env → AH → Prop} {r : List AOper} {d : Option Nat} {a x : Ar} {n : Nat} {g : Option (Nat × Bool)} : UG P L N n0 ⟨d, .st a x n, g⟩ r t Q e ah (some true) = US P L N n0 r t Q (stK e ah n x (ev e a)) := by
  simp only [UG, aev]
  congr 1
  cases ev e a with
  | ptr s p =>
    simp only [stK]
    cases ah[s]? with
    | none => rfl
    | some cs =>
      simp only [sth]
      cases ev e x with
      | sl tg k xs => cases tg <;> cases x <;> rfl
      | _ => rfl
  | _ => rfl
theorem A_stK {e : Env} {ah : AH} {s p n : Nat} {x : Ar} : stK e ah n x (.ptr s p) = sth e ah s p n x (ah[s]?) := rfl
theorem A_sth {e : Env} {ah : AH} {s p n : Nat} {x : Ar} {cs : List AV} : sth e ah s p n x (some cs) = stw e ah s p n x cs (ev e x) := rfl
theorem A_stw_ot {e : Env} {ah : AH} {s p n y k : Nat} {cs xs : List AV} : stw e ah s p n (.t y) cs (.sl .own k xs) = if n = 1 then (over cs p [.sl .own k xs]).map fun cs => (sweep (.cell s p) (put e y (.sl .n k xs)), ah.set s cs) else none := rfl
theorem A_stw_v {e : Env} {ah : AH} {s p n : Nat} {x : Ar} {cs : List AV} {z : Value} : stw e ah s p n x cs (.v z) = if (AV.cells (.v z)).length = n ∧ allOk (AV.cells (.v z)) then (over cs p ((AV.cells (.v z)).map AV.sh1)).map fun cs => (e, ah.set s cs) else none := rfl
theorem A_stw_int {e : Env} {ah : AH} {s p n : Nat} {x : Ar} {cs : List AV} {k : IntKind} {i : Int} : stw e ah s p n x cs (.int k i) = if (AV.cells (.int k i)).length = n ∧ allOk (AV.cells (.int k i)) then (over cs p ((AV.cells (.int k i)).map AV.sh1)).map fun cs => (e, ah.set s cs) else none := rfl
theorem A_stw_bool {e : Env} {ah : AH} {s p n : Nat} {x : Ar} {cs : List AV} {b : Bool} : stw e ah s p n x cs (.bool b) = if (AV.cells (.bool b)).length = n ∧ allOk (AV.cells (.bool b)) then (over cs p ((AV.cells (.bool b)).map AV.sh1)).map fun cs => (e, ah.set s cs) else none := rfl
theorem A_stw_str {e : Env} {ah : AH} {s p n : Nat} {x : Ar} {cs : List AV} {l : List UInt8} : stw e ah s p n x cs (.str l) = if (AV.cells (.str l)).length = n ∧ allOk (AV.cells (.str l)) then (over cs p ((AV.cells (.str l)).map AV.sh1)).map fun cs => (e, ah.set s cs) else none := rfl
theorem A_stw_ptr {e : Env} {ah : AH} {s p n : Nat} {x : Ar} {cs : List AV} {s0 o : Nat} : stw e ah s p n x cs (.ptr s0 o) = if (AV.cells (.ptr s0 o)).length = n ∧ allOk (AV.cells (.ptr s0 o)) then (over cs p ((AV.cells (.ptr s0 o)).map AV.sh1)).map fun cs => (e, ah.set s cs) else none := rfl
theorem A_stw_ep {e : Env} {ah : AH} {s p n : Nat} {x : Ar} {cs : List AV} {a : AV} {o : Nat} : stw e ah s p n x cs (.ep a o) = if (AV.cells (.ep a o)).length = n ∧ allOk (AV.cells (.ep a o)) then (over cs p ((AV.cells (.ep a o)).map AV.sh1)).map fun cs => (e, ah.set s cs) else none := rfl
theorem A_stw_fn {e : Env} {ah : AH} {s p n : Nat} {x : Ar} {cs : List AV} {f : Nat} {ds : List AV} : stw e ah s p n x cs (.fn f ds) = if (AV.cells (.fn f ds)).length = n ∧ allOk (AV.cells (.fn f ds)) then (over cs p ((AV.cells (.fn f ds)).map AV.sh1)).map fun cs => (e, ah.set s cs) else none := rfl
theorem A_stw_b8 {e : Env} {ah : AH} {s p n : Nat} {x : Ar} {cs : List AV} {c : UInt8} : stw e ah s p n x cs (b8 c) = if (AV.cells (b8 c)).length = n ∧ allOk (AV.cells (b8 c)) then (over cs p ((AV.cells (b8 c)).map AV.sh1)).map fun cs => (e, ah.set s cs) else none := rfl
theorem A_stw_sn {e : Env} {ah : AH} {s p n : Nat} {x : Ar} {cs : List AV} {k : Nat} {xs : List AV} : stw e ah s p n x cs (.sl .n k xs) = if (AV.cells (.sl .n k xs)).length = n ∧ allOk (AV.cells (.sl .n k xs)) then (over cs p ((AV.cells (.sl .n k xs)).map AV.sh1)).map fun cs => (e, ah.set s cs) else none := rfl
theorem A_stw_sex {e : Env} {ah : AH} {s p n : Nat} {x : Ar} {cs : List AV} {k : Nat} {xs : List AV} : stw e ah s p n x cs (.sl .ex k xs) = if (AV.cells (.sl .ex k xs)).length = n ∧ allOk (AV.cells (.sl .ex k xs)) then (over cs p ((AV.cells (.sl .ex k xs)).map AV.sh1)).map fun cs => (e, ah.set s cs) else none := rfl
theorem A_stw_sfr {e : Env} {ah : AH} {s p n : Nat} {x : Ar} {cs : List AV} {l : Loc} {k : Nat} {xs : List AV} : stw e ah s p n x cs (.sl (.fr l) k xs) = if (AV.cells (.sl (.fr l) k xs)).length = n ∧ allOk (AV.cells (.sl (.fr l) k xs)) then (over cs p ((AV.cells (.sl (.fr l) k xs)).map AV.sh1)).map fun cs => (e, ah.set s cs) else none := rfl
theorem A_stw_agg {e : Env} {ah : AH} {s p n : Nat} {x : Ar} {cs : List AV} {ds : List AV} : stw e ah s p n x cs (.agg ds) = if (AV.cells (.agg ds)).length = n ∧ allOk (AV.cells (.agg ds)) then (over cs p ((AV.cells (.agg ds)).map AV.sh1)).map fun cs => (e, ah.set s cs) else none := rfl
theorem A_stw_msl {e : Env} {ah : AH} {s p n : Nat} {x : Ar} {cs : List AV} {q0 k0 o0 m0 : Nat} : stw e ah s p n x cs (.msl q0 k0 o0 m0) = if (AV.cells (.msl q0 k0 o0 m0)).length = n ∧ allOk (AV.cells (.msl q0 k0 o0 m0)) then (over cs p ((AV.cells (.msl q0 k0 o0 m0)).map AV.sh1)).map fun cs => (e, ah.set s cs) else none := rfl
theorem A_stw_gsl {e : Env} {ah : AH} {s p n : Nat} {x : Ar} {cs : List AV} {q0 k0 m0 c0 : Nat} : stw e ah s p n x cs (.gsl q0 k0 m0 c0) = if (AV.cells (.gsl q0 k0 m0 c0)).length = n ∧ allOk (AV.cells (.gsl q0 k0 m0 c0)) then (over cs p ((AV.cells (.gsl q0 k0 m0 c0)).map AV.sh1)).map fun cs => (e, ah.set s cs) else none := rfl
theorem A_stw_ifc {e : Env} {ah : AH} {s p n : Nat} {x : Ar} {cs : List AV}  : stw e ah s p n x cs (.ifc) = if (AV.cells (.ifc)).length = n ∧ allOk (AV.cells (.ifc)) then (over cs p ((AV.cells (.ifc)).map AV.sh1)).map fun cs => (e, ah.set s cs) else none := rfl
theorem A_stw_er {e : Env} {ah : AH} {s p n : Nat} {x : Ar} {cs : List AV} {eb : Bool} : stw e ah s p n x cs (errv eb) = if (AV.cells (errv eb)).length = n ∧ allOk (AV.cells (errv eb)) then (over cs p ((AV.cells (errv eb)).map AV.sh1)).map fun cs => (e, ah.set s cs) else none := by cases eb <;> rfl
theorem A_over {c0 : AV} {cs ws : List AV} {o : Nat} : over (c0 :: cs) o ws = if o + ws.length ≤ (c0 :: cs).length then some ((c0 :: cs).take o ++ ws ++ (c0 :: cs).drop (o + ws.length)) else none := rfl
theorem A_f0 {e : Env} {cs : List AV} : fill e cs [] = some cs := rfl
def fillK (e : Env) (r : List (Nat × Nat × Ar)) : Option (List AV) → Option (List AV)
  | some cs => fill e cs r
  | none => none
theorem A_f1 {e : Env} {cs : List AV} {o n : Nat} {x : Ar} {r : List (Nat × Nat × Ar)} : fill e cs ((o, n, x) :: r) = if (ev e x).cells.length = n ∧ allOk (ev e x).cells then fillK e r (over cs o ((ev e x).cells.map AV.sh1)) else none := by
  simp only [fill]
  split
  · cases over cs o ((ev e x).cells.map AV.sh1) <;> rfl
  · rfl
theorem A_fk {e : Env} {cs : List AV} {r : List (Nat × Nat × Ar)} : fillK e r (some cs) = fill e cs r := rfl
theorem S_len {P : Program} {L : List Nat} {N n0 : Nat} {e : Env} {ah : AH} {t : List It} {Q : Exit → Env → AH → Prop} {r : List AOper} {d : Option Nat} {x : Ar} {g : Option (Nat × Bool)} : UG P L N n0 ⟨d, .len x, g⟩ r t Q e ah (some true) = US P L N n0 r t Q (lenK L e ah d (ev e x)) := by simp only [UG, aev]; cases ev e x <;> rfl
theorem A_lenK {L : List Nat} {e : Env} {ah : AH} {d : Option Nat} {tg : Tg} {k : Nat} {xs : List AV} : lenK L e ah d (.sl tg k xs) = some (putv L e d (.int .i64 xs.length), ah) := rfl
theorem S_lens {P : Program} {L : List Nat} {N n0 : Nat} {e : Env} {ah : AH} {t : List It} {Q : Exit → Env → AH → Prop} {r : List AOper} {d : Option Nat} {x : Ar} {g : Option (Nat × Bool)} : UG P L N n0 ⟨d, .lens x, g⟩ r t Q e ah (some true) = US P L N n0 r t Q (lensK L e ah d (ev e x)) := by simp only [UG, aev]; cases ev e x <;> rfl
theorem A_lensK {L : List Nat} {e : Env} {ah : AH} {d : Option Nat} {l : List UInt8} : lensK L e ah d (.str l) = some (putv L e d (.int .i64 l.length), ah) := rfl
theorem S_ext {P : Program} {L : List Nat} {N n0 : Nat} {e : Env} {ah : AH} {t : List It} {Q : Exit → Env → AH → Prop} {r : List AOper} {d : Option Nat} {x : Ar} {i : Nat} {g : Option (Nat × Bool)} : UG P L N n0 ⟨d, .ext x i, g⟩ r t Q e ah (some true) = US P L N n0 r t Q (extK L e ah d i (ev e x)) := by simp only [UG, aev]; cases ev e x with | tup cs => simp only [extK]; cases cs[i]? <;> rfl | _ => rfl
theorem A_extK {L : List Nat} {e : Env} {ah : AH} {d : Option Nat} {i : Nat} {cs : List AV} : extK L e ah d i (.tup cs) = extO L e ah d (cs[i]?) := rfl
theorem A_extO {L : List Nat} {e : Env} {ah : AH} {d : Option Nat} {a : AV} : extO L e ah d (some a) = some (putv L e d a.sh, ah) := rfl
theorem S_fldv {P : Program} {L : List Nat} {N n0 : Nat} {e : Env} {ah : AH} {t : List It} {Q : Exit → Env → AH → Prop} {r : List AOper} {d : Option Nat} {x : Ar} {q : Nat} {n : Option Nat} {g : Option (Nat × Bool)} : UG P L N n0 ⟨d, .fldv x q n, g⟩ r t Q e ah (some true) = US P L N n0 r t Q (fldvK L e ah d q n (ev e x)) := by
  simp only [UG, aev]
  cases ev e x with
  | agg cs =>
    cases n with
    | some n => rfl
    | none => simp only [fldvK]; cases cs[q]? <;> rfl
  | _ => cases n <;> rfl
theorem A_fv0 {L : List Nat} {e : Env} {ah : AH} {d : Option Nat} {q : Nat} {cs : List AV} : fldvK L e ah d q none (.agg cs) = fldvO L e ah d (cs[q]?) := rfl
theorem A_fvO {L : List Nat} {e : Env} {ah : AH} {d : Option Nat} {a : AV} : fldvO L e ah d (some a) = some (putv L e d a.sh1, ah) := rfl
theorem A_fv1 {L : List Nat} {e : Env} {ah : AH} {d : Option Nat} {q n : Nat} {cs : List AV} : fldvK L e ah d q (some n) (.agg cs) = if q + n ≤ cs.length then some (putv L e d (.agg (((cs.drop q).take n).map AV.sh1)), ah) else none := rfl
theorem S_lde {P : Program} {L : List Nat} {N n0 : Nat} {e : Env} {ah : AH} {t : List It} {Q : Exit → Env → AH → Prop} {r : List AOper} {d : Option Nat} {x : Ar} {n : Option Nat} {g : Option (Nat × Bool)} : UG P L N n0 ⟨d, .lde x n, g⟩ r t Q e ah (some true) = US P L N n0 r t Q (ldeK L e ah d n (ev e x)) := by
  simp only [UG, aev]
  cases ev e x with
  | ep a p =>
    cases n with
    | some n => rfl
    | none => simp only [ldeK, ldK, ldE]; cases a.cells[p]? <;> rfl
  | _ => cases n <;> rfl
theorem A_lde {L : List Nat} {e : Env} {ah : AH} {d : Option Nat} {n : Option Nat} {a : AV} {p : Nat} : ldeK L e ah d n (.ep a p) = ldK L d n e ah (.ep a p) := rfl
def WA0 := And.intro @A_sh1_v <| And.intro @A_sh1_int <| And.intro @A_sh1_bool <| And.intro @A_sh1_str <| And.intro @A_sh1_ptr <| And.intro @A_sh1_ep <| And.intro @A_sh1_fn <| And.intro @A_sh1_un <| And.intro @A_sh1_b8 <| And.intro @A_sh1_sn <| And.intro @A_sh1_sex <| And.intro @A_sh1_sown <| And.intro @A_sh1_sfr <| And.intro @A_sh1_agg <| And.intro @A_sh1_tup <| And.intro @A_sh1_msl <| And.intro @A_sh1_gsl <| And.intro @A_sh1_ifc <| And.intro @A_sh1_er <| And.intro @A_sh_v <| And.intro @A_sh_int <| And.intro @A_sh_bool <| And.intro @A_sh_str <| And.intro @A_sh_ptr <| And.intro @A_sh_ep <| And.intro @A_sh_fn <| And.intro @A_sh_un <| And.intro @A_sh_b8 <| And.intro @A_sh_sn <| And.intro @A_sh_sex <| And.intro @A_sh_sown <| And.intro @A_sh_sfr <| And.intro @A_sh_agg <| And.intro @A_sh_tup <| And.intro @A_sh_msl <| And.intro @A_sh_gsl <| And.intro @A_sh_ifc <| And.intro @A_sh_er <| And.intro @A_s1_v <| And.intro @A_s1_int <| And.intro @A_s1_bool <| And.intro @A_s1_str <| And.intro @A_s1_ptr <| And.intro @A_s1_ep <| And.intro @A_s1_fn <| And.intro @A_s1_un <| And.intro @A_s1_b8 <| And.intro @A_s1_sn <| And.intro @A_s1_sex <| And.intro @A_s1_sown <| And.intro @A_s1_sfr <| And.intro @A_s1_agg <| And.intro @A_s1_tup <| And.intro @A_s1_msl <| And.intro @A_s1_gsl <| And.intro @A_s1_ifc <| And.intro @A_s1_er <| And.intro @A_s0_v <| And.intro @A_s0_int <| @A_s0_bool
def WA1 := And.intro @A_s0_str <| And.intro @A_s0_ptr <| And.intro @A_s0_ep <| And.intro @A_s0_fn <| And.intro @A_s0_un <| And.intro @A_s0_b8 <| And.intro @A_s0_sn <| And.intro @A_s0_sex <| And.intro @A_s0_sown <| And.intro @A_s0_sfr <| And.intro @A_s0_agg <| And.intro @A_s0_tup <| And.intro @A_s0_msl <| And.intro @A_s0_gsl <| And.intro @A_s0_ifc <| And.intro @A_s0_er <| And.intro @A_df_v <| And.intro @A_df_int <| And.intro @A_df_bool <| And.intro @A_df_str <| And.intro @A_df_ptr <| And.intro @A_df_ep <| And.intro @A_df_fn <| And.intro @A_df_un <| And.intro @A_df_b8 <| And.intro @A_df_sn <| And.intro @A_df_sex <| And.intro @A_df_sown <| And.intro @A_df_sfr <| And.intro @A_df_agg <| And.intro @A_df_tup <| And.intro @A_df_msl <| And.intro @A_df_gsl <| And.intro @A_df_ifc <| And.intro @A_df_er <| And.intro @A_isOwn_v <| And.intro @A_isOwn_int <| And.intro @A_isOwn_bool <| And.intro @A_isOwn_str <| And.intro @A_isOwn_ptr <| And.intro @A_isOwn_ep <| And.intro @A_isOwn_fn <| And.intro @A_isOwn_un <| And.intro @A_isOwn_b8 <| And.intro @A_isOwn_sn <| And.intro @A_isOwn_sex <| And.intro @A_isOwn_sown <| And.intro @A_isOwn_sfr <| And.intro @A_isOwn_agg <| And.intro @A_isOwn_tup <| And.intro @A_isOwn_msl <| And.intro @A_isOwn_gsl <| And.intro @A_isOwn_ifc <| And.intro @A_isOwn_er <| And.intro @A_dis_v <| And.intro @A_dis_int <| And.intro @A_dis_bool <| And.intro @A_dis_str <| And.intro @A_dis_ptr <| @A_dis_ep
def WA2 := And.intro @A_dis_fn <| And.intro @A_dis_un <| And.intro @A_dis_b8 <| And.intro @A_dis_sn <| And.intro @A_dis_sex <| And.intro @A_dis_sown <| And.intro @A_dis_sfr <| And.intro @A_dis_agg <| And.intro @A_dis_tup <| And.intro @A_dis_msl <| And.intro @A_dis_gsl <| And.intro @A_dis_ifc <| And.intro @A_dis_er <| And.intro @A_unfr_v <| And.intro @A_unfr_int <| And.intro @A_unfr_bool <| And.intro @A_unfr_str <| And.intro @A_unfr_ptr <| And.intro @A_unfr_ep <| And.intro @A_unfr_fn <| And.intro @A_unfr_un <| And.intro @A_unfr_b8 <| And.intro @A_unfr_sn <| And.intro @A_unfr_sex <| And.intro @A_unfr_sown <| And.intro @A_unfr_sfr <| And.intro @A_unfr_agg <| And.intro @A_unfr_tup <| And.intro @A_unfr_msl <| And.intro @A_unfr_gsl <| And.intro @A_unfr_ifc <| And.intro @A_unfr_er <| And.intro @A_unc_v <| And.intro @A_unc_int <| And.intro @A_unc_bool <| And.intro @A_unc_str <| And.intro @A_unc_ptr <| And.intro @A_unc_ep <| And.intro @A_unc_fn <| And.intro @A_unc_un <| And.intro @A_unc_b8 <| And.intro @A_unc_sn <| And.intro @A_unc_sex <| And.intro @A_unc_sown <| And.intro @A_unc_agg <| And.intro @A_unc_tup <| And.intro @A_unc_msl <| And.intro @A_unc_gsl <| And.intro @A_unc_ifc <| And.intro @A_unc_er <| And.intro @A_unc_c <| And.intro @A_unc_t <| And.intro @A_cells_v <| And.intro @A_cells_int <| And.intro @A_cells_bool <| And.intro @A_cells_str <| And.intro @A_cells_ptr <| And.intro @A_cells_ep <| And.intro @A_cells_fn <| @A_cells_un
def WA3 := And.intro @A_cells_b8 <| And.intro @A_cells_sn <| And.intro @A_cells_sex <| And.intro @A_cells_sown <| And.intro @A_cells_sfr <| And.intro @A_cells_agg <| And.intro @A_cells_tup <| And.intro @A_cells_msl <| And.intro @A_cells_gsl <| And.intro @A_cells_ifc <| And.intro @A_cells_er <| And.intro @A_ok1_v <| And.intro @A_ok1_int <| And.intro @A_ok1_bool <| And.intro @A_ok1_str <| And.intro @A_ok1_ptr <| And.intro @A_ok1_ep <| And.intro @A_ok1_fn <| And.intro @A_ok1_un <| And.intro @A_ok1_b8 <| And.intro @A_ok1_sn <| And.intro @A_ok1_sex <| And.intro @A_ok1_sown <| And.intro @A_ok1_sfr <| And.intro @A_ok1_agg <| And.intro @A_ok1_tup <| And.intro @A_ok1_msl <| And.intro @A_ok1_gsl <| And.intro @A_ok1_ifc <| And.intro @A_ok1_er <| And.intro @A_flat_v <| And.intro @A_flat_int <| And.intro @A_flat_bool <| And.intro @A_flat_str <| And.intro @A_flat_ptr <| And.intro @A_flat_ep <| And.intro @A_flat_fn <| And.intro @A_flat_un <| And.intro @A_flat_b8 <| And.intro @A_flat_sn <| And.intro @A_flat_sex <| And.intro @A_flat_sown <| And.intro @A_flat_sfr <| And.intro @A_flat_agg <| And.intro @A_flat_tup <| And.intro @A_flat_msl <| And.intro @A_flat_gsl <| And.intro @A_flat_ifc <| And.intro @A_flat_er <| And.intro @A_np_v <| And.intro @A_np_int <| And.intro @A_np_bool <| And.intro @A_np_str <| And.intro @A_np_ptr <| And.intro @A_np_ep <| And.intro @A_np_fn <| And.intro @A_np_un <| And.intro @A_np_b8 <| And.intro @A_np_sn <| @A_np_sex
def WA4 := And.intro @A_np_sown <| And.intro @A_np_sfr <| And.intro @A_np_agg <| And.intro @A_np_tup <| And.intro @A_np_msl <| And.intro @A_np_gsl <| And.intro @A_np_ifc <| And.intro @A_np_er <| And.intro @A_isTup_v <| And.intro @A_isTup_int <| And.intro @A_isTup_bool <| And.intro @A_isTup_str <| And.intro @A_isTup_ptr <| And.intro @A_isTup_ep <| And.intro @A_isTup_fn <| And.intro @A_isTup_un <| And.intro @A_isTup_b8 <| And.intro @A_isTup_sn <| And.intro @A_isTup_sex <| And.intro @A_isTup_sown <| And.intro @A_isTup_sfr <| And.intro @A_isTup_agg <| And.intro @A_isTup_tup <| And.intro @A_isTup_msl <| And.intro @A_isTup_gsl <| And.intro @A_isTup_ifc <| And.intro @A_isTup_er <| And.intro @A_cp_v <| And.intro @A_cp_int <| And.intro @A_cp_bool <| And.intro @A_cp_str <| And.intro @A_cp_ptr <| And.intro @A_cp_ep <| And.intro @A_cp_fn <| And.intro @A_cp_un <| And.intro @A_cp_b8 <| And.intro @A_cp_sn <| And.intro @A_cp_sex <| And.intro @A_cp_sfr <| And.intro @A_cp_agg <| And.intro @A_cp_tup <| And.intro @A_cp_msl <| And.intro @A_cp_gsl <| And.intro @A_cp_ifc <| And.intro @A_cp_er <| And.intro @A_cp_ot <| And.intro @A_cp_oc <| And.intro @A_asg_v <| And.intro @A_asg_int <| And.intro @A_asg_bool <| And.intro @A_asg_str <| And.intro @A_asg_ptr <| And.intro @A_asg_ep <| And.intro @A_asg_fn <| And.intro @A_asg_un <| And.intro @A_asg_b8 <| And.intro @A_asg_sn <| And.intro @A_asg_sex <| And.intro @A_asg_sfr <| @A_asg_agg
def WA5 := And.intro @A_asg_tup <| And.intro @A_asg_msl <| And.intro @A_asg_gsl <| And.intro @A_asg_ifc <| And.intro @A_asg_er <| And.intro @A_asg_ot <| And.intro @A_asg_oc <| And.intro @A_pick_t <| And.intro @A_pick_f <| And.intro @A_nck_ptr <| And.intro @A_nck_ep <| And.intro @A_fld_ptr <| And.intro @A_fld_ep <| And.intro @A_ld_ptr <| And.intro @A_ld_e0 <| And.intro @A_ld_e1 <| And.intro @A_ld1_v <| And.intro @A_ld1_int <| And.intro @A_ld1_bool <| And.intro @A_ld1_str <| And.intro @A_ld1_ptr <| And.intro @A_ld1_ep <| And.intro @A_ld1_fn <| And.intro @A_ld1_un <| And.intro @A_ld1_b8 <| And.intro @A_ld1_sn <| And.intro @A_ld1_sex <| And.intro @A_ld1_own <| And.intro @A_ld1_sfr <| And.intro @A_ld1_msl <| And.intro @A_ld1_gsl <| And.intro @A_ld1_ifc <| And.intro @A_ld1_er <| And.intro @A_seqK <| And.intro @A_slsI <| And.intro @A_slcI <| And.intro @A_slc3I <| And.intro @A_aappV <| And.intro @A_aT_ex <| And.intro @A_aT_own <| And.intro @A_aT_t <| And.intro @A_aT_c <| And.intro @A_aTt <| And.intro @A_aTh <| And.intro @A_aTc <| And.intro @A_fl0 <| And.intro @A_fl1 <| And.intro @A_ok0 <| And.intro @A_ok <| And.intro @A_np0 <| And.intro @A_np <| And.intro @A_g0 <| And.intro @A_g1 <| And.intro @A_p0 <| And.intro @A_p1 <| And.intro @A_k0 <| And.intro @A_k1 <| And.intro @A_s0 <| And.intro @A_s1 <| @A_u0
def WA6 := And.intro @A_u1 <| And.intro @A_dn <| And.intro @A_ds <| And.intro @A_pn <| And.intro @A_ps <| And.intro @A_e0 <| And.intro @A_e1 <| And.intro @A_ii <| And.intro @A_Lt <| And.intro @A_Lc <| And.intro @A_Ltc <| And.intro @A_Lct <| And.intro @S_st <| And.intro @A_stK <| And.intro @A_sth <| And.intro @A_stw_ot <| And.intro @A_stw_v <| And.intro @A_stw_int <| And.intro @A_stw_bool <| And.intro @A_stw_str <| And.intro @A_stw_ptr <| And.intro @A_stw_ep <| And.intro @A_stw_fn <| And.intro @A_stw_b8 <| And.intro @A_stw_sn <| And.intro @A_stw_sex <| And.intro @A_stw_sfr <| And.intro @A_stw_agg <| And.intro @A_stw_msl <| And.intro @A_stw_gsl <| And.intro @A_stw_ifc <| And.intro @A_stw_er <| And.intro @A_over <| And.intro @A_f0 <| And.intro @A_f1 <| And.intro @A_fk <| And.intro @S_len <| And.intro @A_lenK <| And.intro @S_lens <| And.intro @A_lensK <| And.intro @S_ext <| And.intro @A_extK <| And.intro @A_extO <| And.intro @S_fldv <| And.intro @A_fv0 <| And.intro @A_fvO <| And.intro @A_fv1 <| And.intro @S_lde <| @A_lde
end Go.Am
