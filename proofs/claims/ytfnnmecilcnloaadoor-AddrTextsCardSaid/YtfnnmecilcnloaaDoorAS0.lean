import Derived.Test.YtfnnmecilcnloaaDoorAmLib
import Derived.Test.YtfnnmecilcnloaaDoorAIt
import Derived.Lib.Split
set_option linter.unusedSimpArgs false
set_option linter.unusedVariables false
set_option linter.unusedSectionVars false
set_option linter.defProp false
namespace Go.Proofs.AddrS
open Go Go.Am Go.Proofs

/-- an interface's cell -/
def ifcCell (cs : Array Value) : Prop := ∃ ev, cs = #[ev] ∧ (ev = .nilIface ∨ ∃ te pe, ev = .iface te pe)
instance seatTabs : Tabs := ⟨[(0, fun cs => ∃ m, cs = #[.int .i64 m]), (1, fun cs => cs = (Lib.pow10Tab.map fun z => Value.int .u64 z).toArray), (2, ifcCell), (3, ifcCell)]⟩

theorem tab_cell {F : Nat → Prop} {w : World} (hF : FL F w) {g : Nat} {p : Array Value → Prop} (hm : (g, p) ∈ Tabs.l) {v : Value} (hp : ∀ cs, p cs → cs[0]? = some v ∨ True) : ∃ cs ty fr, w.heap[g]? = some (.cells cs ty fr) ∧ p cs := (hF.tab _ hm).2
theorem cell_of {w : World} {g : Nat} {v : Value} {ty : TypeId} {fr : Nat × Nat} (h : w.heap[g]? = some (.cells #[v] ty fr)) : w.cell? ⟨g, 0, none⟩ = some v := by
  simp [World.cell?, h]
theorem cell_max {F : Nat → Prop} {w : World} (hF : FL F w) : ∃ m, w.cell? ⟨0, 0, none⟩ = some (.int .i64 m) := by
  obtain ⟨-, cs, ty, fr, h, m, rfl⟩ := hF.tab (0, fun cs => ∃ m, cs = #[.int .i64 m]) (by simp [Tabs.l, seatTabs])
  exact ⟨m, cell_of h⟩
theorem cell_err {F : Nat → Prop} {w : World} (hF : FL F w) {g : Nat} (hm : (g, ifcCell) ∈ Tabs.l) : ∃ ev, w.cell? ⟨g, 0, none⟩ = some ev ∧ (ev = .nilIface ∨ ∃ te pe, ev = .iface te pe) := by
  obtain ⟨-, cs, ty, fr, h, ev, rfl, he⟩ := hF.tab _ hm
  exact ⟨ev, cell_of h, he⟩

theorem args1 {γ : List Nat} {C : Nat → List Value} {vs : Array Value} {a : AV} {v : Value} (hl : vs.size = [a].length) (h : vs.getD 0 undef = v) : vs = #[v] := by
  apply Array.ext
  · simpa using hl
  · intro i h1 h2
    simp at h2; subst h2
    simpa [Array.getD_eq_getD_getElem?, Array.getElem?_eq_getElem h1] using h
theorem args2 {vs : Array Value} {a b : AV} {v u : Value} (hl : vs.size = [a, b].length) (h : vs.getD 0 undef = v) (h' : vs.getD 1 undef = u) : vs = #[v, u] := by
  apply Array.ext
  · simpa using hl
  · intro i h1 h2
    have : i = 0 ∨ i = 1 := by simp at h2; omega
    rcases this with rfl | rfl
    · simpa [Array.getD_eq_getD_getElem?, Array.getElem?_eq_getElem h1] using h
    · simpa [Array.getD_eq_getD_getElem?, Array.getElem?_eq_getElem h1] using h'

def strconv_Itoa (n : Int) : Option (List UInt8) := if -9223372036854775808 ≤ n ∧ n ≤ 9223372036854775807 then some (Lib.itoa n) else none
theorem strconv_Itoa_ok {i1 : Int} {H0 : AH} {r0 : List UInt8} (h : strconv_Itoa i1 = some r0) : ACalls Tryd.prog 91 [(.int .i64 i1)] H0 fun v H' => v = (.str r0) ∧ H' = H0 := by
  unfold strconv_Itoa at h
  obtain ⟨⟨h0, h1⟩, h⟩ := ifn h
  injection h with h
  subst h
  exact itoa_calls i1 (by kernel_rfl) (fun F w hF => tabIs_of hF (g := 1) (by simp [Tabs.l, seatTabs]) (by kernel_rfl)) (fun w ht => Tryd.strconv_Itoa i1 h0 h1 w ht)

def strings_IndexByte (s : List UInt8) (c : UInt8) : Option Int := some (Lib.indexByte s c)
theorem strings_IndexByte_ok {s1 : List UInt8} {c2 : UInt8} {H0 : AH} {r0 : Int} (h : strings_IndexByte s1 c2 = some r0) : ACalls Tryd.prog 114 [(.str s1), (b8 c2)] H0 fun v H' => v = (.int .i64 r0) ∧ H' = H0 := by
  unfold strings_IndexByte at h
  injection h with h
  subst h
  refine ACalls.libV rfl (by simp) (by kernel_rfl) fun F C γ w vs hF hl hv => ?_
  have h0 := (hv 0 _ rfl).str_inv
  have h1 := VR.int_inv (hv 1 _ rfl)
  obtain rfl := args2 hl h0 h1
  refine (Tryd.strings_IndexByte ⟨s1.toArray⟩ _ w).mono ?_
  rintro e w' ⟨rfl, rfl⟩
  refine ⟨_, rfl, ?_, by simp [TC], fun _ _ => rfl, Nat.le_refl _, rfl, rfl, rfl⟩
  have : (c2.toNat : Int).toNat.toUInt8 = c2 := by simp
  rw [this]
  exact .int ..

def strconv_Atoi (s : List UInt8) : Option (Int × Bool) := if s.length ≤ 281474976710656 then some (match Lib.atoiAll s with | .ok v => (v, false) | Go.Lib.NumEnd.syntax => (0, true) | .range => (Lib.atoiSat s, true)) else none
theorem strconv_Atoi_ok {s1 : List UInt8} {H0 : AH} {r0 : Int} {r1 : Bool} (h : strconv_Atoi s1 = some (r0, r1)) : ACalls Tryd.prog 116 [(.str s1)] H0 fun v H' => v = (.tup [(.int .i64 r0), (errv r1)]) ∧ H' = H0 := by
  unfold strconv_Atoi at h
  obtain ⟨hs, h⟩ := ifn h
  injection h with h
  refine ACalls.libV rfl (by simp) (by kernel_rfl) fun F C γ w vs hF hl hv => ?_
  have h0 := (hv 0 _ rfl).str_inv
  obtain rfl := args1 (γ := γ) (C := C) hl h0
  have hsz : (⟨s1.toArray⟩ : ByteArray).size = s1.length := by simp [ByteArray.size]
  have hd : (⟨s1.toArray⟩ : ByteArray).data.toList = s1 := by simp
  rcases hat : Lib.atoiAll s1 with v | _ | _
  · rw [hat] at h
    injection h with ha hb
    subst ha hb
    refine (Tryd.strconv_Atoi_ok ⟨s1.toArray⟩ (by omega) v (by rw [hd]; exact hat) w).mono ?_
    rintro e w' ⟨rfl, hw⟩
    refine ⟨_, rfl, ?_, ?_, ?_⟩
    · refine .tup _ _ _ rfl fun i a hi => ?_
      match i, hi with
      | 0, hi => injection hi with hi; subst hi; exact .int ..
      | 1, hi => injection hi with hi; subst hi; exact .v _ _ rfl
    · intro i a hi
      match i, hi with
      | 0, hi => injection hi with hi; subst hi; trivial
      | 1, hi => injection hi with hi; subst hi; trivial
    · rcases hw with rfl | ⟨t, rfl⟩
      · exact ⟨fun _ _ => rfl, Nat.le_refl _, rfl, rfl, rfl⟩
      · exact ⟨fun b hb => Lib.bytesWorld_at_old _ _ _ _ hb, by rw [Lib.bytesWorld_size]; omega, rfl, rfl, rfl⟩
  · rw [hat] at h
    injection h with ha hb
    subst ha hb
    obtain ⟨ev, hc, he⟩ := cell_err hF (g := 2) (by simp [Tabs.l, seatTabs])
    refine (Tryd.strconv_Atoi_syntax ⟨s1.toArray⟩ (by omega) (by rw [hd]; exact hat) ev w hc he).mono ?_
    rintro e w' ⟨N, rfl, -, -, hb⟩
    refine ⟨_, rfl, ?_, ?_, hb.block, hb.size, hb.os, hb.tape, hb.output⟩
    · refine .tup _ _ _ rfl fun i a hi => ?_
      match i, hi with
      | 0, hi => injection hi with hi; subst hi; exact .int ..
      | 1, hi => injection hi with hi; subst hi; exact .ifc ..
    · intro i a hi
      match i, hi with
      | 0, hi => injection hi with hi; subst hi; trivial
      | 1, hi => injection hi with hi; subst hi; trivial
  · rw [hat] at h
    injection h with ha hb
    subst ha hb
    obtain ⟨ev, hc, he⟩ := cell_err hF (g := 3) (by simp [Tabs.l, seatTabs])
    refine (Tryd.strconv_Atoi_range ⟨s1.toArray⟩ (by omega) (by rw [hd]; exact hat) ev w hc he).mono ?_
    rintro e w' ⟨N, rfl, -, -, hb⟩
    refine ⟨_, rfl, ?_, ?_, hb.block, hb.size, hb.os, hb.tape, hb.output⟩
    · refine .tup _ _ _ rfl fun i a hi => ?_
      match i, hi with
      | 0, hi => injection hi with hi; subst hi; simp only [hd]; exact .int ..
      | 1, hi => injection hi with hi; subst hi; exact .ifc ..
    · intro i a hi
      match i, hi with
      | 0, hi => injection hi with hi; subst hi; trivial
      | 1, hi => injection hi with hi; subst hi; trivial

theorem splitK_length {sep : List UInt8} (h1 : sep ≠ []) : ∀ (n : Nat) (l : List UInt8), Lib.count l sep = n → (Lib.splitK sep 0 n l).length = n + 1
  | 0, _, _ => rfl
  | n + 1, l, h => by
    rcases Lib.index_spec l sep with ⟨hi, -⟩ | ⟨i, hi, -, -, -⟩
    · rw [Lib.count_miss hi] at h; cases h
    · have hc := Lib.count_hit h1 hi
      unfold Lib.splitK
      rw [if_neg (by rw [hi]; simp), List.length_cons, splitK_length h1 n _ (by rw [hi, Int.toNat_natCast]; omega)]

def strings_Split (s sep : List UInt8) : Option (List (List UInt8)) := if s.length < 4294967281 ∧ 1 ≤ sep.length then some (Lib.split s sep) else none
theorem strings_Split_ok {s1 s2 : List UInt8} {H0 : AH} {r0 : List (List UInt8)} (h : strings_Split s1 s2 = some r0) : ACalls Tryd.prog 79 [(.str s1), (.str s2)] H0 fun v H' => v = (.sl .n 1 (ml AV.str r0)) ∧ H' = H0 := by
  unfold strings_Split at h
  obtain ⟨⟨hs, hs2⟩, h⟩ := ifn h
  injection h with h
  subst h
  refine ACalls.libStrs (by kernel_rfl) fun F C γ w vs hF hl hv => ?_
  obtain rfl := args2 hl (hv 0 _ rfl).str_inv (hv 1 _ rfl).str_inv
  obtain ⟨m, hm⟩ := cell_max hF
  have hsz : (⟨s1.toArray⟩ : ByteArray).size = s1.length := by simp [ByteArray.size]
  have hsz2 : (⟨s2.toArray⟩ : ByteArray).size = s2.length := by simp [ByteArray.size]
  refine (Tryd.strings_Split ⟨s1.toArray⟩ ⟨s2.toArray⟩ m w (by omega) hm (by omega)).mono ?_
  rintro e w' ⟨rfl, rfl⟩
  have hd : (Lib.splitB ⟨s2.toArray⟩ 0 (Lib.countB ⟨s1.toArray⟩ ⟨s2.toArray⟩) ⟨s1.toArray⟩).map (·.data.toList) = Lib.split s1 s2 := by
    rw [Lib.splitB_data]; simp [Lib.split, Lib.countB]
  have hlen : (Lib.split s1 s2).length = Lib.countB ⟨s1.toArray⟩ ⟨s2.toArray⟩ + 1 := by
    exact splitK_length (by intro h; rw [h] at hs2; simp at hs2) _ _ rfl
  refine ⟨9, (0, 0), by rw [hlen], ?_, by simp⟩
  rw [← hd, List.map_map]
  congr 3
end Go.Proofs.AddrS
