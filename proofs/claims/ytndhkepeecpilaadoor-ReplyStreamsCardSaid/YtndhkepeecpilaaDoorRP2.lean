import Derived.Test.YtndhkepeecpilaaDoorRP1
set_option linter.unusedSimpArgs false
set_option linter.unusedVariables false
set_option linter.unusedSectionVars false
set_option linter.defProp false
namespace Go.Proofs.ReplyS
open Go Go.Am Go.Proofs

/-! ### Feed, line by line -/
abbrev S0 : SplitterV := start 512
abbrev FS := (List UInt8) × (List ReplyV) × Int × (List ReplyV) × ReaderV × SplitterV
theorem s0_ok : Ok S0 := start_ok (by decide) (by decide)
theorem feed_end {F G : Nat} {t6 out : List ReplyV} {t7 n : Int} {s : SplitterV} {r : ReplyV} (hF : 0 < F) :
    iter (reply_Reader_Feed_l1 F) (G + 1) ([], t6, t7, out, ⟨s, r, n, false⟩, S0) = some (.inl (out, 0, ⟨S0, r, n, false⟩)) := by
  refine iter_ret ?_
  simp [reply_Reader_Feed_l1, next_eq s0_ok (b := []) (F := F) (by simp) (by simpa using hF), next]
theorem feed_bad {F G : Nat} {b : List UInt8} {t6 out : List ReplyV} {t7 n : Int} {s s10 : SplitterV} {r : ReplyV} :
    iter (reply_Reader_Feed_l1 F) (G + 1) (b, t6, t7, out, ⟨s, r, n, true⟩, s10) = some (.inr (out, ⟨s10, r, n, true⟩, s10)) := by
  refine iter_brk ?_
  simp [reply_Reader_Feed_l1]
theorem reset_s0 : line_Splitter_Reset S0 = some S0 := rfl
theorem feed_line {F G : Nat} {b' : List UInt8} {t6 out : List ReplyV} {t7 n : Int} {s : SplitterV} {r : ReplyV} {x y z c : Nat} {sep : UInt8} {rest : List UInt8} (hc : c = 100 * x + 10 * y + z) (hx : x < 10) (hy : y < 10) (hz : z < 10) (h1 : 200 ≤ c) (h2 : c ≤ 599)
    (hs : sep = 45 ∨ sep = 32) (hr : ∀ k ∈ rest, k ≠ 13) (hb : rest.length + b'.length ≤ 100000) (hF : rest.length + b'.length + 10 < F) (hl : r.lines.length ≤ 20) (ho : out.length ≤ 100000) :
    iter (reply_Reader_Feed_l1 F) (G + 1) (dg x :: dg y :: dg z :: sep :: (rest ++ 13 :: 10 :: b'), t6, t7, out, ⟨s, r, n, false⟩, S0) =
      if okLine r c rest ∧ rest.length ≤ 506 then
        (if sep = 45 then iter (reply_Reader_Feed_l1 F) G (b', t6, t7, out, ⟨S0, ⟨c, r.lines ++ [rest]⟩, IntKind.wrap .i64 (n + (rest.length : Int)), false⟩, S0)
        else iter (reply_Reader_Feed_l1 F) G (b', t6, t7, out ++ [⟨c, r.lines ++ [rest]⟩], ⟨S0, ⟨0, []⟩, 0, false⟩, S0))
      else iter (reply_Reader_Feed_l1 F) G (b', t6, t7, out, ⟨S0, ⟨0, []⟩, 0, true⟩, S0) := by
  obtain ⟨-, -, -, dx, -⟩ := dg_facts ⟨x, hx⟩
  obtain ⟨-, -, -, dy, -⟩ := dg_facts ⟨y, hy⟩
  obtain ⟨-, -, -, dz, -⟩ := dg_facts ⟨z, hz⟩
  have hsep : sep ≠ 13 := by rcases hs with rfl | rfl <;> decide
  have hn := next_eq s0_ok (b := dg x :: dg y :: dg z :: sep :: (rest ++ 13 :: 10 :: b')) (F := F) (by simp; omega) (by simp; omega)
  have hl1 := next_line (m := 512) (by decide) (by decide) (t := dg x :: dg y :: dg z :: sep :: rest) (by intro k hk; simp at hk; rcases hk with rfl | rfl | rfl | rfl | hk <;> first | exact dx | exact dy | exact dz | exact hsep | exact hr _ hk) b'
  simp only [List.cons_append] at hl1
  rw [hl1] at hn
  simp only at hn
  by_cases hlen : rest.length ≤ 506
  · have e1 : (dg x :: dg y :: dg z :: sep :: rest).take (512 - 2 : Int).toNat = dg x :: dg y :: dg z :: sep :: rest := List.take_of_length_le (by simp; omega)
    have e2 : decide ((512 - 2 : Int) < ((dg x :: dg y :: dg z :: sep :: rest).length : Int)) = false := by simp; omega
    rw [e1, e2] at hn
    have ht := take_eq (F := F) (r := ⟨S0, r, n, false⟩) hc hx hy hz h1 h2 hs (rest := rest) (by omega) (by omega) hl
    by_cases hk : okLine r c rest
    · rw [if_pos ⟨hk, hlen⟩]
      simp only [hk, if_true] at ht
      rcases hs with rfl | rfl
      · rw [if_pos rfl]
        refine iter_nxt ?_
        simp [reply_Reader_Feed_l1, hn, ht]
      · rw [if_neg (by decide)]
        refine iter_nxt ?_
        simp [reply_Reader_Feed_l1, hn, ht, capp_ok (b := 32) (xs := out) (ys := [(⟨c, r.lines ++ [rest]⟩ : ReplyV)]) (by simp; omega) (by omega)]
    · rw [if_neg (fun q => hk q.1)]
      simp only [hk, if_false] at ht
      refine iter_nxt ?_
      simp [reply_Reader_Feed_l1, hn, ht, reset_s0]
  · rw [if_neg (fun q => hlen q.2)]
    have e2 : decide ((512 - 2 : Int) < ((dg x :: dg y :: dg z :: sep :: rest).length : Int)) = true := by simp; omega
    rw [e2] at hn
    refine iter_nxt ?_
    simp [reply_Reader_Feed_l1, hn, take_long, reset_s0]
theorem new_r : reply_New = some (some ⟨S0, ⟨0, []⟩, 0, false⟩) := by kernel_rfl
/-- Parse, out of what Feed's loop comes to -/
theorem parse_bad {F : Nat} {b : List UInt8} {o : List ReplyV} {s s' : SplitterV} {r : ReplyV} {n : Int} {x : Bool}
    (h : iter (reply_Reader_Feed_l1 F) F (b, [], 0, [], ⟨S0, ⟨0, []⟩, 0, false⟩, S0) = some (.inr (o, ⟨s, r, n, x⟩, s'))) : reply_Parse F b = some (⟨0, []⟩, 3) := by
  have hf : reply_Reader_Feed F ⟨S0, ⟨0, []⟩, 0, false⟩ b = some (o, 3, ⟨s', r, n, x⟩) := by
    unfold reply_Reader_Feed
    simp only [h, Option.bind_some]
  unfold reply_Parse
  rw [new_r, Option.bind_some]
  simp only [hf, Option.bind_some]
  simp [reply_Parse_p1]
theorem parse_one {F : Nat} {b : List UInt8} {p : ReplyV}
    (h : iter (reply_Reader_Feed_l1 F) F (b, [], 0, [], ⟨S0, ⟨0, []⟩, 0, false⟩, S0) = some (.inl ([p], 0, ⟨S0, ⟨0, []⟩, 0, false⟩))) : reply_Parse F b = some (p, 0) := by
  have hf : reply_Reader_Feed F ⟨S0, ⟨0, []⟩, 0, false⟩ b = some ([p], 0, ⟨S0, ⟨0, []⟩, 0, false⟩) := by
    unfold reply_Reader_Feed
    simp only [h, Option.bind_some]
  have hh : line_Splitter_Held_s S0 = some 0 := by decide
  have hi : idx [p] 0 = some p := by have := idx_nat [p] 0; simpa using this
  unfold reply_Parse
  rw [new_r, Option.bind_some]
  simp only [hf, Option.bind_some]
  simp [reply_Parse_p1, hh, hi]
end Go.Proofs.ReplyS
