/- CoverAny walked -/
import Derived.Test.YtikhkcnbabpneaaAaQ4
import Derived.Test.YtikhkcnbabpneaaAaQ5
import Derived.Test.YtikhkcnbabpneaaAaPx38
namespace Go.Proofs.Ytikhkcnbabpneaa.P
open Go.RowKit Go.Proofs.YtikhkcnbabpneaaW.PrintWords Go.Proofs.YtikhkcnbabpneaaW.PrintLast Go.Proofs.YtikhkcnbabpneaaW.PrintMore
set_option linter.unusedVariables false
set_option linter.unusedSimpArgs false

theorem C_zero {α : Type} (d : Kd α) (w : World) (A : Option Addr) : Kd.C d w A ([] : List α).length ([] : List α) := ⟨rfl, by simp, fun h => absurd h (Nat.lt_irrefl 0)⟩
set_option maxHeartbeats 8000000 in
set_option maxRecDepth 100000 in
/-- CoverAny: it returns true. -/
theorem coverAny_calls (A0 : Option Addr) (c0 : Nat) (l0 : List S25) (w : World) (hr0 : Kd.C k25 w A0 l0.length l0) (hc0 : l0.length ≤ c0) :
    Calls Try.prog 6 #[.slice A0 l0.length c0] w fun e w' => e = .returned (.bool true) ∧ Below w.heap.size w w' := by
  obtain ⟨rows, ⟨kf, hf⟩, h5, h9⟩ := few_ends l0 hr0.2.1
  obtain ⟨kc, hC⟩ := check_ends goodL rows h9
  obtain ⟨ka, hA⟩ := check_ends goodL (anyS :: rows) (fun p hp => by
    rcases List.mem_cons.1 hp with rfl | hp
    · rw [any_nodes]; omega
    · exact h9 p hp)
  have hk := chk_any h5 h9
  have hcA := fun (P0 : Nat → Prop) (A : Option Addr) (c : Nat) (Ac : Option Addr) (cc : Nat) (W : World) h1 h2 h3 => cover_Check.calls kc P0 A c rows Ac cc consL (chk consL rows).1 (chk consL rows).2 W h1 h2 h3 (hC kc (Nat.le_refl _))
  have hcB := fun (P0 : Nat → Prop) (A : Option Addr) (c : Nat) (Ac : Option Addr) (cc : Nat) (W : World) h1 h2 h3 => cover_Check.calls ka P0 A c (anyS :: rows) Ac cc consL (chk consL (anyS :: rows)).1 (chk consL (anyS :: rows)).2 W h1 h2 h3 (hA ka (Nat.le_refl _))
  have hfw := selvagelaw09_few.calls kf A0 c0 l0 5 rows w hr0 hc0 (hf kf (Nat.le_refl _))
  generalize chk consL rows = a at hcA hk
  generalize chk consL (anyS :: rows) = b at hcB hk
  have HK := Aside0.mk hk
  have hcl : consL.length = 8 := rfl
  clear hf hC hA hk h9 hr0
  go_enter Try.func6, Try.ntmps6
  go_wp2_with fail
  refine hfw.mono ?_; rintro e w1 ⟨v1, rfl, hR1, hB1⟩
  clear hfw
  obtain ⟨A1, c1, rfl⟩ := Kd.R_slice hR1
  have HRC := Aside0.mk (Kd.R_reads' hR1).2.2
  have HR1 := Aside0.mk (Kd.R_reads' hR1).2.1
  have HB := Aside0.mk hB1
  clear hR1 hB1
  go_wp2_with fail
  refine (selvageref09_Cons.calls consL w1 consL_f).mono ?_; rintro e w2 ⟨v2, rfl, hR2, hB2⟩
  obtain ⟨A2, c2, rfl⟩ := Kd.R_slice hR2
  have HCC := Aside0.mk (Kd.R_reads' hR2).2.2
  have HC2 := Aside0.mk (Kd.R_reads' hR2).2.1
  replace HRC := Aside0.mk (Kd.C_below HRC.out hB2)
  replace HB := Aside0.mk (HB.out.trans (hB2.mono HB.out.size))
  clear hR2 hB2
  go_wp2_with fail
  refine (hcA (fun k => k < w2.heap.size) A1 c1 A2 c2 w2 (Kd.V_mk HR1.out (Kd.C_F k25_heap HRC.out)) HCC.out HC2.out).mono ?_; rintro e w3 ⟨rfl, hB3⟩
  clear hcA
  replace HRC := Aside0.mk (Kd.C_below HRC.out hB3)
  replace HCC := Aside0.mk (Kd.C_below HCC.out hB3)
  replace HB := Aside0.mk (HB.out.trans (hB3.mono HB.out.size))
  clear hB3
  go_wp2_with fail
  refine (any_calls w3).mono ?_; rintro e w4 ⟨P4, p4, Q4, q4, rfl, hK4, hB4⟩
  have hsz := hB4.size
  have HK4 := Aside0.mk hK4
  have HB4 := Aside0.mk hB4
  have HF := Aside0.mk (Kd.C_F k25_heap HRC.out)
  clear hK4 hB4
  go_wp2_with (first
    | ((with_reducible refine gate_builtin (b := .append) (xs := #[.tmp 19, .tmp 21]) rfl ?_); at_builtin; refine Kd.N_append k25 (w0 := w3) w3.heap.size rfl (.tmp 19) (.tmp 21) 22 25 (.agg #[.int .i64 0, .string ⟨#[]⟩, .int .i64 0, .int .i64 0, .slice none 0 0, .slice none 0 0]) 88 rfl Try.underlying22 info25 rfl (by decide) (by omega) (.slice none 0 0) ([] : List S25) anyS [.int .i64 24, .string ⟨#[]⟩, .int .i64 0, .int .i64 0, .slice P4 0 p4, .slice Q4 0 q4] (fun k => w3.heap.size ≤ k) (fun k => w3.heap.size ≤ k ∧ some k ≠ (Value.slice none 0 0).ownBlock) rfl rfl ?aP (fun _ hk => hk) ?aF ?aO ?aB ?aS ?aL ?_
       (case aP => exact k25_mkF _ _ anyS (Nat.zero_le _) (fun W' _ => C_zero _ _ _) (Nat.zero_le _) (fun W' _ => C_zero _ _ _))
       (case aF => first | exact fun k hk => Nat.le_trans hsz hk | exact fun k hk => Nat.le_trans (HB4.out.alloc hsz _).size hk)
       (case aO => exact Kd.N_nil _ _ _ _ _)
       (case aB => first | exact HB4.out | exact HB4.out.alloc hsz _)
       (case aS => first | exact hsz | exact (HB4.out.alloc hsz _).size)
       (case aL => first | simp | decide)
       intro v5 w5 ho hb hg hat
       have HN5 := Aside0.mk ho
       have HB5 := Aside0.mk hb
       clear ho hb hg hat)
    | ((with_reducible refine gate_builtin (b := .append) (xs := #[.tmp 23, .tmp 24]) rfl ?_); at_builtin; refine Kd.N_append_rows k25 (w0 := w3) w3.heap.size rfl (.tmp 23) (.tmp 24) 22 25 (.agg #[.int .i64 0, .string ⟨#[]⟩, .int .i64 0, .int .i64 0, .slice none 0 0, .slice none 0 0]) 88 rfl Try.underlying22 info25 rfl (by decide) (by omega) v5 [anyS] rows A1 rows.length c1 (fun _ => True) (fun k => k < w3.heap.size) rfl rfl ?aO ?aR ?aK ?aF ?aB ?aS ?aL ?_
       (case aO => exact Kd.N_mono HN5.out (fun _ _ => trivial))
       (case aR => exact Kd.F_below HF.out HB5.out)
       (case aK => exact fun k hk => ⟨trivial, fun he => by have := Kd.N_base HN5.out k he.symm; omega⟩)
       (case aF => exact fun _ _ => trivial)
       (case aB => exact HB5.out)
       (case aS => exact HB5.out.size)
       (case aL => simp; omega)
       intro v6 w6 ho hb hg hat
       have HN6 := Aside0.mk ho
       have HB6 := Aside0.mk hb
       clear ho hb hg hat
       obtain ⟨A6, c6, e6⟩ := Kd.N_slice HN6.out
       subst e6))
  have hN6 := Kd.N_reads' HN6.out
  refine (hcB (fun k => k < w6.heap.size) A6 c6 A2 c2 w6 (Kd.V_mk hN6.2.1 (Kd.C_F k25_heap hN6.2.2)) (Kd.C_below HCC.out HB6.out) HC2.out).mono ?_; rintro e w7 ⟨rfl, hB7⟩
  have HB7 := Aside0.mk (HB.out.trans ((HB6.out.trans (hB7.mono HB6.out.size)).mono HB.out.size))
  clear hcB hN6 hB7
  have hk := HK.out
  generalize a.1 = a1 at *
  generalize a.2 = a2 at *
  generalize b.1 = b1 at *
  generalize b.2 = b2 at *
  have hlv := fun W => selvagelaw09_lives.calls true W rfl
  by_cases h1 : a2 = 1
  · subst h1
    rw [if_pos rfl, Bool.and_eq_true, decide_eq_true_eq, decide_eq_true_eq] at hk
    obtain ⟨rfl, rfl⟩ := hk
    go_wp2_with fail
    refine (hlv _).mono ?_; rintro e w8 ⟨rfl, hB8⟩
    go_wp2
    go_ret
    exact ⟨rfl, HB7.out.trans (hB8.mono HB7.out.size)⟩
  · rw [if_neg h1] at hk
    have h1b : (a2 == 1) = false := by simpa using h1
    by_cases h0 : rows.length = 0
    · have h0i : (rows.length : Int) = 0 := by omega
      have h0b : ((rows.length : Int) == 0) = true := by simpa using h0i
      rw [if_pos h0, decide_eq_true_eq] at hk
      subst hk
      go_wp2_with fail
      refine (hlv _).mono ?_; rintro e w8 ⟨rfl, hB8⟩
      go_wp2
      go_ret
      exact ⟨rfl, HB7.out.trans (hB8.mono HB7.out.size)⟩
    · have h0i : ¬ (rows.length : Int) = 0 := by omega
      have h0b : ((rows.length : Int) == 0) = false := by simpa using h0i
      rw [if_neg h0, Bool.and_eq_true, decide_eq_true_eq, decide_eq_true_eq] at hk
      obtain ⟨rfl, rfl⟩ := hk
      go_wp2_with fail
      refine (hlv _).mono ?_; rintro e w8 ⟨rfl, hB8⟩
      go_wp2
      go_ret
      exact ⟨rfl, HB7.out.trans (hB8.mono HB7.out.size)⟩
end Go.Proofs.Ytikhkcnbabpneaa.P
