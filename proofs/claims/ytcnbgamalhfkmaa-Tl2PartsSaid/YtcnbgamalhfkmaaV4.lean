/- tl2: the walk of Parts. -/
import Derived.Test.YtcnbgamalhfkmaaV1
namespace Go.Proofs.Ytcnbgamalhfkmaa.P
open Go.RowKit Go.Proofs.YtcnbgamalhfkmaaW.PrintWords Go.Proofs.YtcnbgamalhfkmaaW.PrintLast Go.Proofs.YtcnbgamalhfkmaaW.PrintMore
set_option linter.unusedVariables false
set_option linter.unusedSimpArgs false
open Go.WideShapes Go.Maps Go.Shelf
/-- n folded into 0 .. m - 1, as the laws do it. -/
def absN (n : Int) : Int := if n < 0 then -(n + 1) else n
theorem absN_in {n : Int} (h : in64 n) : 0 ≤ absN n ∧ absN n ≤ 9223372036854775807 := by unfold in64 at h; unfold absN; split <;> omega
def foldN (m : Int) (n : Int) : Int := absN n % m
theorem foldN_in {m n : Int} (hm : 0 < m) : 0 ≤ foldN m n ∧ foldN m n < m := ⟨Int.emod_nonneg _ (by omega), Int.emod_lt_of_pos _ hm⟩
theorem foldW_len (p : Mp) (ws : List (Int × Int)) : (foldW p ws).length ≤ p.length + ws.length := by
  induction ws generalizing p with
  | nil => exact Nat.le_refl _
  | cons w ws ih =>
    have h1 := ih (putM p w.1 w.2)
    have h2 := putM_len p w.1 w.2
    show (foldW (putM p w.1 w.2) ws).length ≤ p.length + (ws.length + 1)
    omega
/-- The parts as a round has them. -/
def roundP (ws : List (Int × Int)) (f i : Nat) : List Mp := if i = f then partsW ws f i ++ [[]] else partsW ws f i
theorem partsW_ok (ws : List (Int × Int)) (f i : Nat) : partsW ws f i ≠ [] ∧ (partsW ws f i).length ≤ 2 ∧ ∀ p ∈ partsW ws f i, p.length ≤ ws.length := by
  unfold partsW
  split
  · refine ⟨by simp, by simp, fun p hp => ?_⟩
    rw [List.mem_singleton.1 hp]
    have := foldW_len [] (ws.take i)
    simp at this; omega
  · refine ⟨by simp, by simp, fun p hp => ?_⟩
    rcases List.mem_cons.1 hp with rfl | hp
    · have := foldW_len [] (ws.take f)
      simp at this; omega
    · rw [List.mem_singleton.1 hp]
      have := foldW_len [] ((ws.take i).drop f)
      simp at this; omega
theorem roundP_ok (ws : List (Int × Int)) (f i : Nat) : roundP ws f i ≠ [] ∧ (roundP ws f i).length ≤ 3 ∧ ∀ p ∈ roundP ws f i, p.length ≤ ws.length := by
  obtain ⟨h1, h2, h3⟩ := partsW_ok ws f i
  unfold roundP
  split
  · refine ⟨by simp, by simp; omega, fun p hp => ?_⟩
    rcases List.mem_append.1 hp with hp | hp
    · exact h3 p hp
    · rw [List.mem_singleton.1 hp]; exact Nat.zero_le _
  · exact ⟨h1, by omega, h3⟩
theorem want_set {ws : List (Int × Int)} {f i nn : Nat} {keep : Bool} {dv : Int} (hi : i < ws.length) (hw : ws[i] = ((nn : Int), dv)) (h4 : nn < 4) (hv : (decide (i < f) || keep) = true) :
    (#[.int .i64 (wantW ws f keep i 0), .int .i64 (wantW ws f keep i 1), .int .i64 (wantW ws f keep i 2), .int .i64 (wantW ws f keep i 3)] : Array Value).setIfInBounds nn (.int .i64 dv) = #[.int .i64 (wantW ws f keep (i + 1) 0), .int .i64 (wantW ws f keep (i + 1) 1), .int .i64 (wantW ws f keep (i + 1) 2), .int .i64 (wantW ws f keep (i + 1) 3)] := by
  have h := fun n => wantW_step (f := f) (keep := keep) hi n
  simp only [hw, hv, Bool.true_and] at h
  rw [h 0, h 1, h 2, h 3]
  have : nn = 0 ∨ nn = 1 ∨ nn = 2 ∨ nn = 3 := by omega
  rcases this with rfl | rfl | rfl | rfl <;> rfl
theorem want_keep {ws : List (Int × Int)} {f i : Nat} {keep : Bool} (hi : i < ws.length) (hv : (decide (i < f) || keep) = false) (n : Int) : wantW ws f keep (i + 1) n = wantW ws f keep i n := by
  rw [wantW_step hi n, hv]; simp
theorem want_cell {W : World} {kb nn : Nat} {a b c d : Int} (hb : W.heap[kb]? = some (.cells #[.int .i64 a, .int .i64 b, .int .i64 c, .int .i64 d] 3 (0, 0))) (h4 : nn < 4) : ∃ v, W.cell? ⟨kb, nn, none⟩ = some (.int .i64 v) := by
  have h := blk_cell hb nn
  have : nn = 0 ∨ nn = 1 ∨ nn = 2 ∨ nn = 3 := by omega
  rcases this with rfl | rfl | rfl | rfl <;> exact ⟨_, h⟩
/-- What is read at the end. -/
def PartsEnd (w : World) (kb : Nat) (f : Int → Int) (W : World) : Prop := ∃ Q : List Mp, Q ≠ [] ∧ Q.length ≤ 2 ∧ (∀ n, (hitM Q n).getD (10 + n) = f n) ∧ LoneB w w.heap.size (pv Q []) kb (.cells #[.int .i64 (f 0), .int .i64 (f 1), .int .i64 (f 2), .int .i64 (f 3)] 3) W
theorem partsEnd {w W : World} {kb : Nat} (ws : List (Int × Int)) (fr : Nat) (keep : Bool) (Q : List Mp) (h1 : Q ≠ []) (h2 : Q.length ≤ 2) (h3 : ∀ n, (hitM Q n).getD (10 + n) = wantW ws fr keep ws.length n)
    (h : LoneB w w.heap.size (pv Q []) kb (.cells #[.int .i64 (wantW ws fr keep ws.length 0), .int .i64 (wantW ws fr keep ws.length 1), .int .i64 (wantW ws fr keep ws.length 2), .int .i64 (wantW ws fr keep ws.length 3)] 3) W) : PartsEnd w kb (wantW ws fr keep ws.length) W := ⟨Q, h1, h2, h3, h⟩
theorem partsOne {w W : World} {kb : Nat} {f : Int → Int} {p : Mp} (h3 : ∀ n, (hitM [p] n).getD (10 + n) = f n)
    (h : LoneB w w.heap.size (pv [p] []) kb (.cells #[.int .i64 (f 0), .int .i64 (f 1), .int .i64 (f 2), .int .i64 (f 3)] 3) W) : PartsEnd w kb f W := ⟨[p], List.cons_ne_nil _ _, Nat.le_succ 1, h3, h⟩
theorem fcell {w W : World} {g kb : Nat} {s : PEng} {f : Int → Int} {j : Nat} (h : LoneB w g s kb (.cells #[.int .i64 (f 0), .int .i64 (f 1), .int .i64 (f 2), .int .i64 (f 3)] 3) W) (h4 : j < 4) : W.cell? ⟨kb, j, none⟩ = some (.int .i64 (f (j : Int))) := by
  obtain ⟨_, _, _, _, _, _, hb⟩ := h
  have h := blk_cell hb j
  have : j = 0 ∨ j = 1 ∨ j = 2 ∨ j = 3 := by omega
  rcases this with rfl | rfl | rfl | rfl <;> exact h
set_option maxHeartbeats 8000000 in
set_option maxRecDepth 100000 in
theorem tl2Parts_calls (w : World) (A : Option Addr) (c : Nat) (l : List (Int × Int)) (from' : Int) (hf : in64 from') (keep : Bool)
    (hl : ∀ i (h : i < l.length), ∃ ad, A = some ad ∧ w.cell? ⟨(ad.add (i * 4)).block, (ad.add (i * 4)).off + 2, none⟩ = some (.int .i64 l[i].1) ∧ w.cell? ⟨(ad.add (i * 4)).block, (ad.add (i * 4)).off + 3, none⟩ = some (.int .i64 l[i].2) ∧ in64 l[i].1 ∧ in64 l[i].2) (hlc : l.length ≤ c) :
    Calls Try.prog 3 #[.slice A l.length c, .int .i64 from', .bool keep] w fun e w' => e = .returned (.bool true) ∧ Below w.heap.size w w' := by
  have hb := begin2_calls w
  have HL := Aside0.mk hl
  have hff := foldN_in (m := 13) (n := from') (by omega)
  clear hl
  go_enter Try.func3, Try.ntmps3
  go_wp2_with fail
  refine hb.mono ?_; rintro e W0 ⟨rfl, hP⟩
  have H0 := Aside0.mk (Pair.lone hP)
  clear hb hP
  have c1 := H0.out.begin 0 pv_begin
  go_wp2_with fail
  refine c1.mono ?_; rintro e W1 ⟨rfl, H1⟩
  clear c1 H0
  have H2 := Aside0.mk (H1.out.block (.cells #[.int .i64 10, .int .i64 11, .int .i64 12, .int .i64 13] 3))
  go_upto_if 26 with (fail)
  go_cut [1] (fun v1 wc => ∃ pk : Int, 0 ≤ pk ∧ pk ≤ 9223372036854775807 ∧ v1 = .int .i64 pk ∧ pk = absN from' ∧ W1.alloc (.cells #[.int .i64 10, .int .i64 11, .int .i64 12, .int .i64 13] 3) = wc)
  case first =>
    by_cases hneg : from' < 0
    · have h1 : from' + 1 ≤ 0 := by omega
      have h2 : -9223372036854775807 ≤ from' + 1 := by unfold in64 at hf; omega
      have HE := Aside0.mk (show -(from' + 1) = absN from' by unfold absN; rw [if_pos hneg])
      go_wp2
      go_meet
      exact ⟨-(from' + 1), by omega, by omega, rfl, HE.out, rfl⟩
    · have HE := Aside0.mk (show from' = absN from' by unfold absN; rw [if_neg hneg])
      go_wp2
      go_meet
      exact ⟨from', by omega, by unfold in64 at hf; omega, rfl, HE.out, rfl⟩
  case rest =>
    obtain ⟨pk, hq0, hq1, rfl, hpk, rfl⟩ := hcut
    have HPK := Aside0.mk (show pk % 13 = foldN 13 from' by unfold foldN; rw [hpk])
    obtain ⟨fr, hfr⟩ : ∃ fr : Nat, foldN 13 from' = fr := ⟨(foldN 13 from').toNat, by omega⟩
    rw [hfr] at hff HPK
    obtain ⟨W2, hW2⟩ : ∃ W2, W1.alloc (.cells #[.int .i64 10, .int .i64 11, .int .i64 12, .int .i64 13] 3) = W2 := ⟨_, rfl⟩
    rw [hW2] at H2 ⊢
    obtain ⟨kb, hkb⟩ : ∃ kb, W1.heap.size = kb := ⟨_, rfl⟩
    have hkw : w.heap.size ≤ kb := by rw [← hkb]; obtain ⟨_, _, _, _, hb⟩ := H1.out; exact hb.size
    rw [hkb] at H2 ⊢
    clear hW2 hkb H1
    go_upto_region 9 with (fail)
    rw [show absN from' % 13 = (fr : Int) from hfr]
    obtain ⟨ws, hws⟩ : ∃ ws, (l.take 12).map (fun d : Int × Int => (foldN 4 d.1, d.2)) = ws := ⟨_, rfl⟩
    have HWS := Aside0.mk hws
    have hwl : ws.length = min 12 l.length := by rw [← hws, List.length_map, List.length_take]
    clear hws hpk hfr
    go_wp2
    go_loopg [10, 11] ws.length (fun gg s10 _ wr => ∃ i : Nat, i ≤ ws.length ∧ ws.length - i ≤ gg ∧ s10 = .int .i64 i ∧ Aside0 (LoneB w w.heap.size (pv (partsW ws fr i) []) kb (.cells #[.int .i64 (wantW ws fr keep i 0), .int .i64 (wantW ws fr keep i 1), .int .i64 (wantW ws fr keep i 2), .int .i64 (wantW ws fr keep i 3)] 3) wr))
    case atStart =>
      refine ⟨0, Nat.zero_le _, by omega, rfl, ⟨?_⟩⟩
      have e1 : partsW ws fr 0 = [[]] := by unfold partsW; rw [if_pos (Nat.zero_le _)]; rfl
      have e2 : ∀ n, wantW ws fr keep 0 n = 10 + n := fun n => by unfold wantW visW; cases keep <;> simp [lastW]
      rw [e1, e2, e2, e2, e2]
      exact H2.out
    case round =>
      obtain ⟨i, hi, hg, rfl, HR⟩ := hrel
      by_cases hlt : i < ws.length
      · have hltz : (i : Int) < (l.length : Int) := by omega
        have hlt2 : (i : Int) < 12 := by omega
        clear H2
        go_upto_if 44 with (fail)
        obtain ⟨hk1, hk2, hk3⟩ := partsW_ok ws fr i
        go_cut [46] (fun _ wc => Aside0 (LoneB w w.heap.size (pv (roundP ws fr i) []) kb (.cells #[.int .i64 (wantW ws fr keep i 0), .int .i64 (wantW ws fr keep i 1), .int .i64 (wantW ws fr keep i 2), .int .i64 (wantW ws fr keep i 3)] 3) wc))
        case first =>
          by_cases hif : i = fr
          · have hb1 : ((i : Int) == (fr : Int)) = true := by simp [hif]
            have hpt := HR.out.part 0 (pv_part (partsW ws fr i) []) (fun x hx => by rw [pv_open] at hx; injection hx with hx; subst hx; show (partsW ws fr i).length ≤ 100000; omega)
            have HP1 := Aside0.mk (show partsW ws fr i ++ [[]] = roundP ws fr i by unfold roundP; rw [if_pos hif])
            generalize ((i : Int) == (fr : Int)) = bq at *
            subst hb1
            clear HR hk1 hk2 hk3 hif
            go_wp2_with fail
            refine hpt.mono ?_; rintro e w' ⟨rfl, hq⟩
            clear hpt
            go_wp2
            go_meet
            exact ⟨by rw [← HP1.out]; exact hq.out⟩
          · have hb1 : ((i : Int) == (fr : Int)) = false := by rw [beq_eq_false_iff_ne]; omega
            have HP1 := Aside0.mk (show partsW ws fr i = roundP ws fr i by unfold roundP; rw [if_neg hif])
            clear hk1 hk2 hk3
            go_wp2
            go_meet
            exact ⟨by rw [← HP1.out]; exact HR.out⟩
        case rest =>
          have HC := Aside0.mk hcut.out
          have HBel := Aside0.mk (show Below w.heap.size w wc by obtain ⟨_, _, _, _, hb, _, _⟩ := HC.out; exact hb)
          obtain ⟨ad, hA, cN, cV, h64n, h64v⟩ := HL.out i (by omega)
          have HADD := Aside0.mk hA
          have cN2 := pw_cell_below HBel.out cN
          have cV2 := pw_cell_below HBel.out cV
          have HWI := Aside0.mk (show ws[i] = (foldN 4 l[i].1, l[i].2) by
            have h1 := HWS.out
            subst h1
            simp)
          have habs := absN_in h64n
          clear hcut HR hk1 hk2 hk3 cN cV
          generalize l[i].1 = dn at *
          generalize l[i].2 = dv at *
          subst hA
          go_upto_if 53 with (fail)
          go_cut [11] (fun v11 wx => v11 = .int .i64 (absN dn) ∧ wc = wx)
          case first =>
            by_cases hneg : dn < 0
            · have h1 : dn + 1 ≤ 0 := by omega
              have h2 : -9223372036854775807 ≤ dn + 1 := by unfold in64 at h64n; omega
              have HE := Aside0.mk (show -(dn + 1) = absN dn by unfold absN; rw [if_pos hneg])
              go_wp2
              go_meet
              exact ⟨by rw [← HE.out], rfl⟩
            · have HE := Aside0.mk (show dn = absN dn by unfold absN; rw [if_neg hneg])
              go_wp2
              go_meet
              exact ⟨by rw [← HE.out], rfl⟩
          case rest =>
            obtain ⟨rfl, rfl⟩ := hcut
            have h4 := foldN_in (m := 4) (n := dn) (by omega)
            obtain ⟨nn, hnn⟩ : ∃ nn : Nat, foldN 4 dn = nn := ⟨(foldN 4 dn).toNat, by omega⟩
            obtain ⟨hr1, hr2, hr3⟩ := roundP_ok ws fr i
            have hwr := HC.out.write 0 (foldN 4 dn) dv (pv_write h4 dv (roundP ws fr i) []) (by unfold in64; omega) h64v (fun x hx => by rw [pv_open] at hx; injection hx with hx; subst hx; exact ⟨hr1, by show (roundP ws fr i).length ≤ 100000; omega, fun p hp => by have := hr3 p hp; omega⟩)
            rw [hnn] at hwr h4 HWI
            have hm4 : absN dn % 4 = (nn : Int) := hnn
            have HST := Aside0.mk (show (roundP ws fr i).dropLast ++ [putM ((roundP ws fr i).getLastD []) (nn : Int) dv] = partsW ws fr (i + 1) by
              rw [partsW_step hlt, HWI.out]; rfl)
            rw [HST.out] at hwr
            have HNN := Aside0.mk hnn
            clear HC hr1 hr2 hr3 hnn
            generalize absN dn = an at *
            go_upto_region 18 with (fail)
            rw [hm4]
            clear hm4
            go_wp2_with fail
            refine hwr.mono ?_; rintro e w3 ⟨rfl, H3⟩
            clear hwr
            have H3c := Aside0.mk H3.out
            obtain ⟨ρ3, cells3, vs3, hE3, hB3, h03, hk3⟩ := H3.out
            have cV3 := pw_cell_below hB3 (show w.cell? ⟨(ad.add (i * 4)).block, (ad.add (i * 4)).off + 3, none⟩ = some (.int .i64 dv) by
              obtain ⟨ad2, e, _, hv, _, _⟩ := HL.out i (by omega)
              cases e
              rw [hv]
              have := HWI.out
              have h1 := HWS.out
              subst h1
              simp at this
              rw [this.2])
            have hn4 : nn < 4 := by omega
            obtain ⟨vv, kc⟩ := want_cell hk3 hn4
            have kf := blk_frozen hk3 nn
            have hnz : (nn : Int) < 4 := by omega
            clear hE3 hB3 h03 hk3 H3 cN2 cV2
            cases hv : (decide (i < fr) || keep) with
            | true =>
              have HS := Aside0.mk (want_set hlt HWI.out hn4 hv)
              by_cases hif : i < fr
              · have hifz : (i : Int) < (fr : Int) := by omega
                clear hv
                · go_wp2
                  go_roundg (ws.length - (i + 1))
                  case measure => omega
                  case rel => exact ⟨i + 1, by omega, by omega, by go_num, ⟨by rw [← HS.out]; exact H3c.out.set hkw nn (.int .i64 dv)⟩⟩
              · have hifz : ¬ (i : Int) < (fr : Int) := by omega
                obtain rfl : keep = true := by simpa [hif] using hv
                clear hv
                · go_wp2
                  go_roundg (ws.length - (i + 1))
                  case measure => omega
                  case rel => exact ⟨i + 1, by omega, by omega, by go_num, ⟨by rw [← HS.out]; exact H3c.out.set hkw nn (.int .i64 dv)⟩⟩
            | false =>
              have HS := Aside0.mk (want_keep hlt hv)
              have hif : ¬ i < fr := fun e => by simp [e] at hv
              have hifz : ¬ (i : Int) < (fr : Int) := by omega
              obtain rfl : keep = false := by simpa [hif] using hv
              clear hv
              · go_wp2
                go_roundg (ws.length - (i + 1))
                case measure => omega
                case rel => exact ⟨i + 1, by omega, by omega, by go_num, ⟨by rw [HS.out, HS.out, HS.out, HS.out]; exact H3c.out⟩⟩
      · have hiE : i = ws.length := by omega
        have HEND := Aside0.mk hiE
        have hgl : (¬ (i : Int) < (l.length : Int)) ∨ ((i : Int) < (l.length : Int) ∧ ¬ (i : Int) < (12 : Int)) := by omega
        have hfl : (fr < ws.length ∧ (fr : Int) < (l.length : Int) ∧ (fr : Int) < 12) ∨ (ws.length ≤ fr ∧ ((¬ (fr : Int) < (l.length : Int)) ∨ ((fr : Int) < (l.length : Int) ∧ ¬ (fr : Int) < 12))) := by omega
        have HEE : Aside0 (LoneB w w.heap.size (pv (partsW ws fr ws.length) []) kb (.cells #[.int .i64 (wantW ws fr keep ws.length 0), .int .i64 (wantW ws fr keep ws.length 1), .int .i64 (wantW ws fr keep ws.length 2), .int .i64 (wantW ws fr keep ws.length 3)] 3) wr) := ⟨by rw [← hiE]; exact HR.out⟩
        obtain ⟨hk1, hk2, hk3⟩ := partsW_ok ws fr ws.length
        clear H2 hlt hiE HR
        have hwl12 : ws.length ≤ 12 := by omega
        rcases hfl with ⟨hfw, hfl1, hfl2⟩ | ⟨hfw, hfl⟩
        · have hpw : partsW ws fr ws.length = [foldW [] (ws.take fr), foldW [] ((ws.take ws.length).drop fr)] := by unfold partsW; rw [if_neg (by omega)]
          have hcond : ∀ x, openE (pv (partsW ws fr ws.length) []) 0 = some x → x.parts.length ≤ 100000 ∧ ∀ p ∈ x.parts, p.length ≤ 100000 := fun x hx => by
            rw [pv_open] at hx; injection hx with hx; subst hx
            exact ⟨by show (partsW ws fr ws.length).length ≤ 100000; omega, fun p hp => by have := hk3 p hp; omega⟩
          cases keep with
          | true =>
            have hsh := HEE.out.shut 0 true (show shutE (pv (partsW ws fr ws.length) []) 0 true = (0, pv [copyM (foldW [] (ws.take fr)) (foldW [] ((ws.take ws.length).drop fr))] []) by rw [hpw]; rfl) hcond
            have HH := Aside0.mk (fun n => parts_join hfw n)
            clear HEE hk1 hk2 hk3 hpw hcond
            rcases hgl with hg1z | ⟨hg1z, hg2z⟩
            all_goals
              go_wp2_with fail
              refine hsh.mono ?_; rintro e w5 ⟨rfl, H5⟩
              clear hsh
              have HP : PartsEnd w kb (wantW ws fr true ws.length) w5 := partsOne HH.out H5.out
              go_upto_block 2 with (fail)
              obtain ⟨Q, hQ0, hQ2, hQf, HQ⟩ := HP
              generalize wantW ws fr true ws.length = ff at *
              have HQF := Aside0.mk hQf
              clear hQf
              go_wp2
              go_loopg [13, 14, 15] 4 (fun gg s13 _ _ wr => ∃ j : Nat, j ≤ 4 ∧ 4 - j ≤ gg ∧ s13 = .int .i64 j ∧ ∃ rd : List Int, rd.length ≤ j ∧ Aside0 (LoneB w w.heap.size (pv Q rd) kb (.cells #[.int .i64 (ff 0), .int .i64 (ff 1), .int .i64 (ff 2), .int .i64 (ff 3)] 3) wr))
              case atStart => exact ⟨0, by omega, by omega, rfl, [], by simp, ⟨HQ⟩⟩
              case round =>
                obtain ⟨j, hj, hg, rfl, rd, hrd, HR⟩ := hrel
                by_cases hlt : j < 4
                · have hltz : (j : Int) < 4 := by omega
                  obtain ⟨rd', hre, hrd'⟩ := pv_read (n := (j : Int)) (by omega) Q rd
                  rw [HQF.out] at hre
                  have hrl : rd'.length ≤ j + 1 := by
                    rcases hrd' with rfl | rfl
                    · omega
                    · rw [List.length_append, List.length_singleton]; omega
                  have hcl := HR.out.read 0 (j : Int) hre (by unfold in64; omega) (fun x hx => by rw [pv_open] at hx; injection hx with hx; subst hx; exact ⟨hQ0, by show Q.length ≤ 100000; omega, by show rd.length ≤ 100000; omega⟩)
                  clear HR hre hrd' HQ
                  go_wp2_with fail
                  refine hcl.mono ?_; rintro e w6 ⟨rfl, H6⟩
                  clear hcl
                  have hcell := fcell H6.out hlt
                  generalize ff (j : Int) = q at *
                  go_wp2
                  go_roundg (4 - (j + 1))
                  case measure => omega
                  case rel => exact ⟨j + 1, by omega, by omega, by go_num, rd', hrl, H6⟩
                · have hltz : ¬ (j : Int) < 4 := by omega
                  have hlv := lives2_calls wr
                  have HBB := Aside0.mk (show Below w.heap.size w wr by obtain ⟨_, _, _, _, hb, _, _⟩ := HR.out; exact hb)
                  clear HR HQ
                  go_wp2_with fail
                  refine hlv.mono ?_; rintro e w6 ⟨rfl, H6⟩
                  clear hlv
                  go_wp2
                  go_ret
                  exact ⟨rfl, HBB.out.trans (H6.mono HBB.out.size)⟩
          | false =>
            have hsh := HEE.out.shut 0 false (show shutE (pv (partsW ws fr ws.length) []) 0 false = (0, pv [foldW [] (ws.take fr)] []) by rw [hpw]; rfl) hcond
            have HH := Aside0.mk (fun n => parts_undo hfw n)
            clear HEE hk1 hk2 hk3 hpw hcond
            rcases hgl with hg1z | ⟨hg1z, hg2z⟩
            all_goals
              go_wp2_with fail
              refine hsh.mono ?_; rintro e w5 ⟨rfl, H5⟩
              clear hsh
              have HP : PartsEnd w kb (wantW ws fr false ws.length) w5 := partsOne HH.out H5.out
              go_upto_block 2 with (fail)
              obtain ⟨Q, hQ0, hQ2, hQf, HQ⟩ := HP
              generalize wantW ws fr false ws.length = ff at *
              have HQF := Aside0.mk hQf
              clear hQf
              go_wp2
              go_loopg [13, 14, 15] 4 (fun gg s13 _ _ wr => ∃ j : Nat, j ≤ 4 ∧ 4 - j ≤ gg ∧ s13 = .int .i64 j ∧ ∃ rd : List Int, rd.length ≤ j ∧ Aside0 (LoneB w w.heap.size (pv Q rd) kb (.cells #[.int .i64 (ff 0), .int .i64 (ff 1), .int .i64 (ff 2), .int .i64 (ff 3)] 3) wr))
              case atStart => exact ⟨0, by omega, by omega, rfl, [], by simp, ⟨HQ⟩⟩
              case round =>
                obtain ⟨j, hj, hg, rfl, rd, hrd, HR⟩ := hrel
                by_cases hlt : j < 4
                · have hltz : (j : Int) < 4 := by omega
                  obtain ⟨rd', hre, hrd'⟩ := pv_read (n := (j : Int)) (by omega) Q rd
                  rw [HQF.out] at hre
                  have hrl : rd'.length ≤ j + 1 := by
                    rcases hrd' with rfl | rfl
                    · omega
                    · rw [List.length_append, List.length_singleton]; omega
                  have hcl := HR.out.read 0 (j : Int) hre (by unfold in64; omega) (fun x hx => by rw [pv_open] at hx; injection hx with hx; subst hx; exact ⟨hQ0, by show Q.length ≤ 100000; omega, by show rd.length ≤ 100000; omega⟩)
                  clear HR hre hrd' HQ
                  go_wp2_with fail
                  refine hcl.mono ?_; rintro e w6 ⟨rfl, H6⟩
                  clear hcl
                  have hcell := fcell H6.out hlt
                  generalize ff (j : Int) = q at *
                  go_wp2
                  go_roundg (4 - (j + 1))
                  case measure => omega
                  case rel => exact ⟨j + 1, by omega, by omega, by go_num, rd', hrl, H6⟩
                · have hltz : ¬ (j : Int) < 4 := by omega
                  have hlv := lives2_calls wr
                  have HBB := Aside0.mk (show Below w.heap.size w wr by obtain ⟨_, _, _, _, hb, _, _⟩ := HR.out; exact hb)
                  clear HR HQ
                  go_wp2_with fail
                  refine hlv.mono ?_; rintro e w6 ⟨rfl, H6⟩
                  clear hlv
                  go_wp2
                  go_ret
                  exact ⟨rfl, HBB.out.trans (H6.mono HBB.out.size)⟩
        · have HP := partsEnd ws fr keep _ hk1 hk2 (fun n => parts_all (keep := keep) hfw n) HEE.out
          clear HEE hk1 hk2 hk3
          rcases hfl with hfl1 | ⟨hfl1, hfl2⟩
          all_goals
            rcases hgl with hg1z | ⟨hg1z, hg2z⟩
            all_goals
              go_upto_block 2 with (fail)
              obtain ⟨Q, hQ0, hQ2, hQf, HQ⟩ := HP
              generalize wantW ws fr keep ws.length = ff at *
              have HQF := Aside0.mk hQf
              clear hQf
              go_wp2
              go_loopg [13, 14, 15] 4 (fun gg s13 _ _ wr => ∃ j : Nat, j ≤ 4 ∧ 4 - j ≤ gg ∧ s13 = .int .i64 j ∧ ∃ rd : List Int, rd.length ≤ j ∧ Aside0 (LoneB w w.heap.size (pv Q rd) kb (.cells #[.int .i64 (ff 0), .int .i64 (ff 1), .int .i64 (ff 2), .int .i64 (ff 3)] 3) wr))
              case atStart => exact ⟨0, by omega, by omega, rfl, [], by simp, ⟨HQ⟩⟩
              case round =>
                obtain ⟨j, hj, hg, rfl, rd, hrd, HR⟩ := hrel
                by_cases hlt : j < 4
                · have hltz : (j : Int) < 4 := by omega
                  obtain ⟨rd', hre, hrd'⟩ := pv_read (n := (j : Int)) (by omega) Q rd
                  rw [HQF.out] at hre
                  have hrl : rd'.length ≤ j + 1 := by
                    rcases hrd' with rfl | rfl
                    · omega
                    · rw [List.length_append, List.length_singleton]; omega
                  have hcl := HR.out.read 0 (j : Int) hre (by unfold in64; omega) (fun x hx => by rw [pv_open] at hx; injection hx with hx; subst hx; exact ⟨hQ0, by show Q.length ≤ 100000; omega, by show rd.length ≤ 100000; omega⟩)
                  clear HR hre hrd' HQ
                  go_wp2_with fail
                  refine hcl.mono ?_; rintro e w6 ⟨rfl, H6⟩
                  clear hcl
                  have hcell := fcell H6.out hlt
                  generalize ff (j : Int) = q at *
                  go_wp2
                  go_roundg (4 - (j + 1))
                  case measure => omega
                  case rel => exact ⟨j + 1, by omega, by omega, by go_num, rd', hrl, H6⟩
                · have hltz : ¬ (j : Int) < 4 := by omega
                  have hlv := lives2_calls wr
                  have HBB := Aside0.mk (show Below w.heap.size w wr by obtain ⟨_, _, _, _, hb, _, _⟩ := HR.out; exact hb)
                  clear HR HQ
                  go_wp2_with fail
                  refine hlv.mono ?_; rintro e w6 ⟨rfl, H6⟩
                  clear hlv
                  go_wp2
                  go_ret
                  exact ⟨rfl, HBB.out.trans (H6.mono HBB.out.size)⟩
end Go.Proofs.Ytcnbgamalhfkmaa.P
