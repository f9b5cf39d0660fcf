/- What the functions come to, by the evaluator. Conditions: none; checked here. -/
import Derived.Test.YthiaaaedfidnjaaAjC
import Derived.Test.YthiaaaedfidnjaaAjA
set_option linter.unusedVariables false
set_option linter.unusedSimpArgs false

namespace Go.Proofs.Ythiaaaedfidnjaa.Aj
open Go Go.Proofs.Ythiaaaedfidnjaa.Am Go.RowKit
set_option linter.unusedVariables false
set_option linter.unusedSimpArgs false
set_option maxRecDepth 100000
/-! graphs of histories are rising, and their edges may be -/
theorem less_iff {a b : Ed} : lessR a b = true ↔ a.1 < b.1 ∨ (a.1 = b.1 ∧ a.2 < b.2) := by
  unfold lessR
  simp only [Bool.or_eq_true, Bool.and_eq_true, decide_eq_true_eq, beq_iff_eq]
theorem less_trans {a b c : Ed} (h : lessR a b = true) (h2 : lessR b c = true) : lessR a c = true := by
  rw [less_iff] at *
  omega
theorem eqE_iff {a b : Ed} : eqE a b = true ↔ a = b := by
  unfold eqE
  simp only [Bool.and_eq_true, Bool.and_true, beq_iff_eq]
  constructor
  · rintro ⟨h1, h2⟩
    exact Prod.ext h1 h2
  · rintro rfl
    exact ⟨rfl, rfl⟩
abbrev Rz (l : List Ed) : Prop := l.Pairwise fun a b => lessR a b = true
theorem ris_rz : ∀ {l : List Ed}, risR l = true ↔ Rz l
  | [] => ⟨fun _ => .nil, fun _ => rfl⟩
  | [a] => ⟨fun _ => List.pairwise_singleton _ a, fun _ => rfl⟩
  | a :: b :: r => by
    have ih := ris_rz (l := b :: r)
    show (lessR a b && risR (b :: r)) = true ↔ _
    rw [Bool.and_eq_true, ih]
    unfold Rz
    rw [List.pairwise_cons (l := b :: r)]
    constructor
    · rintro ⟨h1, h2⟩
      refine ⟨fun x hx => ?_, h2⟩
      rcases List.mem_cons.1 hx with rfl | hx
      · exact h1
      · exact less_trans h1 ((List.pairwise_cons.1 h2).1 x hx)
    · rintro ⟨h1, h2⟩
      exact ⟨h1 b (by simp), h2⟩
theorem risB_eq : ∀ l : List Ed, risB l = risR l
  | [] => rfl
  | [a] => rfl
  | a :: b :: r => by
    show (lessE a b && risB (b :: r)) = (lessR a b && risR (b :: r))
    rw [lessE_eq, risB_eq (b :: r)]
theorem findF_none {e : Ed} : ∀ {l : List Ed} {i : Int}, 0 ≤ i → findF e l i < 0 → e ∉ l
  | [], _, _, _ => by simp
  | x :: r, i, hi, h => by
    have h : (bif eqE x e then i else findF e r (i + 1)) < 0 := h
    cases hc : eqE x e with
    | true => rw [hc] at h; exact absurd h (by show ¬ i < 0; omega)
    | false =>
      rw [hc] at h
      have ih := findF_none (l := r) (i := i + 1) (by omega) h
      intro hm
      rcases List.mem_cons.1 hm with rfl | hm
      · rw [eqE_iff.2 rfl] at hc; cases hc
      · exact ih hm
theorem cnt_split (e : Ed) : ∀ l : List Ed, (∀ x ∈ l.take (cntR e l), lessR x e = true) ∧ (∀ y r, l.drop (cntR e l) = y :: r → lessR y e = false)
  | [] => ⟨by simp, by simp⟩
  | x :: r => by
    have ih := cnt_split e r
    have hc : cntR e (x :: r) = bif lessR x e then cntR e r + 1 else 0 := rfl
    cases hx : lessR x e with
    | true =>
      rw [hc, hx]
      refine ⟨fun y hy => ?_, fun y t h => ih.2 y t h⟩
      rcases List.mem_cons.1 (show y ∈ x :: r.take (cntR e r) from hy) with rfl | hy
      · exact hx
      · exact ih.1 y hy
    | false =>
      rw [hc, hx]
      refine ⟨fun y hy => by simp at hy, fun y t h => ?_⟩
      have h : x :: r = y :: t := h
      injection h with h1 h2
      rw [← h1]
      exact hx
/-- Rising, each edge one that may be. -/
structure Gd (n : Int) (l : List Ed) : Prop where
  ris : Rz l
  edge : ∀ e ∈ l, 0 ≤ e.1 ∧ e.1 < e.2 ∧ e.2 < n
theorem Gd.nil {n : Int} : Gd n [] := ⟨.nil, by simp⟩
theorem Gd.turn {n : Int} {l : List Ed} {e : Ev} (h : Gd n l) (he : 0 ≤ e.2.1.1 ∧ e.2.1.1 < e.2.1.2 ∧ e.2.1.2 < n) : Gd n (turnL l e) := by
  unfold turnL turnR
  cases hc : (risR l && !(e.2.2 == hasR l e.2.1)) with
  | false => exact .nil
  | true =>
    simp only [Bool.and_eq_true, Bool.not_eq_true'] at hc
    cases ha : e.2.2 with
    | false =>
      show Gd n (l.take (findR l e.2.1).toNat ++ l.drop ((findR l e.2.1).toNat + 1))
      have hs : (l.take (findR l e.2.1).toNat ++ l.drop ((findR l e.2.1).toNat + 1)).Sublist l := by
        conv => rhs; rw [← List.take_append_drop (findR l e.2.1).toNat l]
        refine List.Sublist.append (.refl _) ?_
        rw [← List.drop_drop]
        exact List.drop_sublist _ _
      exact ⟨h.ris.sublist hs, fun x hx => h.edge x (hs.subset hx)⟩
    | true =>
      show Gd n (l.take (cntR e.2.1 l) ++ [e.2.1] ++ l.drop (cntR e.2.1 l))
      rw [ha] at hc
      have hno : e.2.1 ∉ l := by
        have : hasR l e.2.1 = false := by cases hq : hasR l e.2.1 with | false => rfl | true => rw [hq] at hc; simp at hc
        have := of_decide_eq_false this
        exact findF_none (i := 0) (by omega) (by show findR l e.2.1 < 0; omega)
      obtain ⟨h1, h2⟩ := cnt_split e.2.1 l
      have hR := h.ris
      rw [← List.take_append_drop (cntR e.2.1 l) l] at hR
      have hmem : ∀ x ∈ l.drop (cntR e.2.1 l), x ∈ l := fun x hx => List.mem_of_mem_drop hx
      have hmem2 : ∀ x ∈ l.take (cntR e.2.1 l), x ∈ l := fun x hx => List.mem_of_mem_take hx
      generalize l.take (cntR e.2.1 l) = A at *
      generalize l.drop (cntR e.2.1 l) = B at *
      obtain ⟨p1, p2, p3⟩ := List.pairwise_append.1 hR
      have hB : ∀ y ∈ B, lessR e.2.1 y = true := by
        cases B with
        | nil => simp
        | cons y r =>
          have hy := h2 y r rfl
          have hne : y ≠ e.2.1 := fun hq => hno (hq ▸ hmem y (by simp))
          have hlt : lessR e.2.1 y = true := by
            rw [less_iff]
            have : ¬ (y.1 < e.2.1.1 ∨ (y.1 = e.2.1.1 ∧ y.2 < e.2.1.2)) := fun hq => by rw [less_iff.2 hq] at hy; cases hy
            by_cases hq : e.2.1.1 = y.1 ∧ e.2.1.2 = y.2
            · exact absurd (Prod.ext hq.1.symm hq.2.symm) hne
            · omega
          intro z hz
          rcases List.mem_cons.1 hz with rfl | hz
          · exact hlt
          · exact less_trans hlt ((List.pairwise_cons.1 p2).1 z hz)
      refine ⟨?_, fun x hx => ?_⟩
      · refine List.pairwise_append.2 ⟨List.pairwise_append.2 ⟨p1, List.pairwise_singleton _ _, fun x hx y hy => ?_⟩, p2, fun x hx y hy => ?_⟩
        · rw [List.mem_singleton.1 hy]
          exact h1 x hx
        · rcases List.mem_append.1 hx with hx | hx
          · exact p3 x hx y hy
          · rw [List.mem_singleton.1 hx]
            exact hB y hy
      · rcases List.mem_append.1 hx with hx | hx
        · rcases List.mem_append.1 hx with hx | hx
          · exact h.edge x (hmem2 x hx)
          · rw [List.mem_singleton.1 hx]
            exact he
        · exact h.edge x (hmem x hx)
theorem turnL_len' (l : List Ed) (e : Ev) : (turnL l e).length ≤ l.length + 1 := by
  unfold turnL turnR
  cases risR l && !(e.2.2 == hasR l e.2.1)
  · exact Nat.zero_le _
  · show (bif e.2.2 then l.take (cntR e.2.1 l) ++ [e.2.1] ++ l.drop (cntR e.2.1 l) else l.take (findR l e.2.1).toNat ++ l.drop ((findR l e.2.1).toNat + 1)).length ≤ _
    cases e.2.2
    · show (l.take (findR l e.2.1).toNat ++ l.drop ((findR l e.2.1).toNat + 1)).length ≤ _
      rw [List.length_append, List.length_take, List.length_drop]
      omega
    · show (l.take (cntR e.2.1 l) ++ [e.2.1] ++ l.drop (cntR e.2.1 l)).length ≤ _
      rw [List.length_append, List.length_append, List.length_take, List.length_drop, List.length_singleton]
      omega
/-- Events whose edges may be. -/
def Ge (n : Int) (xs : List Ev) : Prop := ∀ e ∈ xs, 0 ≤ e.2.1.1 ∧ e.2.1.1 < e.2.1.2 ∧ e.2.1.2 < n
theorem nV_mem {xs : List Ev} {i : Nat} (h : i < xs.length) : nV xs i ∈ xs := by
  unfold nV nth
  rw [List.getD_eq_getElem?_getD, List.getElem?_eq_getElem h]
  exact List.getElem_mem h
theorem aft_gd {n : Int} {xs : List Ev} (hx : Ge n xs) : ∀ (d i : Nat) (now : List Ed), i + d ≤ xs.length → Gd n now → Gd n (aftF xs d i now) ∧ (aftF xs d i now).length ≤ now.length + d
  | 0, i, now, _, h => ⟨h, Nat.le_refl _⟩
  | d + 1, i, now, hi, h => by
    have := aft_gd hx d (i + 1) (turnL now (nV xs i)) (by omega) (h.turn (hx _ (nV_mem (by omega))))
    have hl := turnL_len' now (nV xs i)
    refine ⟨this.1, ?_⟩
    show (aftF xs d (i + 1) (turnL now (nV xs i))).length ≤ _
    omega
theorem at_gd {n : Int} {xs : List Ev} {t : Int} (hx : Ge n xs) : Gd n (atR n xs t) ∧ (atR n xs t).length ≤ xs.length := by
  unfold atR aftR
  cases ((chkR n xs).2 == 0) with
  | false => exact ⟨.nil, Nat.zero_le _⟩
  | true =>
    have := aft_gd hx (min xs.length (((uptoR t xs : Nat) : Int)).toNat) 0 [] (by omega) .nil
    refine ⟨this.1, ?_⟩
    show (aftF xs (min xs.length (((uptoR t xs : Nat) : Int)).toNat) 0 []).length ≤ _
    have h2 := this.2
    simp only [List.length_nil] at h2
    omega
theorem ins_mem {xs : List Ev} {e x : Ev} (h : x ∈ insR xs e) : x ∈ xs ∨ x = e := by
  unfold insR at h
  cases hs : insSame xs e with
  | true => rw [hs] at h; exact .inl h
  | false =>
    rw [hs] at h
    have h : x ∈ xs.take (insK xs e) ++ [e] ++ xs.drop (insK xs e) := h
    rcases List.mem_append.1 h with h | h
    · rcases List.mem_append.1 h with h | h
      · exact .inl (List.mem_of_mem_take h)
      · exact .inr (List.mem_singleton.1 h)
    · exact .inl (List.mem_of_mem_drop h)
theorem few_bd' {n : Int} (h : 1 ≤ n) : 1 ≤ few n ∧ few n ≤ 9 ∧ few n ≤ n := by
  unfold few
  by_cases h : 9 < n
  · rw [decide_eq_true h]; show 1 ≤ (9 : Int) ∧ (9 : Int) ≤ 9 ∧ 9 ≤ n; omega
  · rw [decide_eq_false h]; show 1 ≤ n ∧ n ≤ 9 ∧ n ≤ n; omega
theorem edg_good {a b n : Int} (hn : 1 ≤ n) (h : edgO a b n = true) : 0 ≤ edgA a b n ∧ edgA a b n < edgB a b n ∧ edgB a b n < n := by
  obtain ⟨h1, h2, h3⟩ := few_bd' hn
  have a4 := Int.emod_nonneg a (show few n ≠ 0 by omega)
  have a5 := Int.emod_lt_of_pos a (show 0 < few n by omega)
  have b4 := Int.emod_nonneg b (show few n ≠ 0 by omega)
  have b5 := Int.emod_lt_of_pos b (show 0 < few n by omega)
  have hU : 0 ≤ edgU a n ∧ edgU a n < n := by
    unfold edgU
    cases decide (a > 230)
    · show 0 ≤ a % few n ∧ a % few n < n; omega
    · show 0 ≤ n - 1 - a % few n ∧ n - 1 - a % few n < n; omega
  have hV : 0 ≤ edgV b n ∧ edgV b n < n := by
    unfold edgV
    cases decide (b > 240)
    · show 0 ≤ b % few n ∧ b % few n < n; omega
    · show 0 ≤ n - 1 - b % few n ∧ n - 1 - b % few n < n; omega
  have hne : edgU a n ≠ edgV b n := fun hq => by
    unfold edgO at h
    rw [hq, beq_self_eq_true] at h
    cases h
  unfold edgA edgB
  rw [h]
  generalize edgU a n = u at *
  generalize edgV b n = v at *
  show 0 ≤ (bif decide (v < u) then v else u) ∧ (bif decide (v < u) then v else u) < (bif decide (v > u) then v else u) ∧ (bif decide (v > u) then v else u) < n
  by_cases hc : v < u
  · rw [decide_eq_true hc, decide_eq_false (show ¬ v > u by omega)]
    show 0 ≤ v ∧ v < u ∧ u < n
    omega
  · rw [decide_eq_false hc, decide_eq_true (show v > u by omega)]
    show 0 ≤ u ∧ u < v ∧ v < n
    omega
theorem insR_len' (xs : List Ev) (e : Ev) : (insR xs e).length ≤ xs.length + 1 := by
  unfold insR
  cases insSame xs e
  · show (xs.take (insK xs e) ++ [e] ++ xs.drop (insK xs e)).length ≤ _
    rw [List.length_append, List.length_append, List.length_take, List.length_drop, List.length_singleton]
    omega
  · show xs.length ≤ _; omega
theorem hisT_good {n : Int} {l : List Int} (hn : 1 ≤ n) : ∀ (d i : Nat) (t : Int) (ts : List Ev), Ge n ts → ts.length ≤ 40 → Ge n (hisT n l d i t ts) ∧ (hisT n l d i t ts).length ≤ 40
  | 0, i, t, ts, h, hl => ⟨h, hl⟩
  | d + 1, i, t, ts, h, hl => by
    show Ge n (bif decide (i + 2 < l.length) && decide (ts.length < 40) then _ else _) ∧ (bif decide (i + 2 < l.length) && decide (ts.length < 40) then _ else _ : List Ev).length ≤ 40
    cases hc : (decide (i + 2 < l.length) && decide (ts.length < 40)) with
    | false => exact ⟨h, hl⟩
    | true =>
      simp only [Bool.and_eq_true, decide_eq_true_eq] at hc
      refine hisT_good hn d (i + 3) _ _ ?_ ?_
      · unfold hisS
        cases ho : edgO (nB l (i + 1)) (nB l (i + 2)) n with
        | false => exact h
        | true =>
          intro e he
          rcases ins_mem he with he | rfl
          · exact h e he
          · exact edg_good hn ho
      · unfold hisS
        cases edgO (nB l (i + 1)) (nB l (i + 2)) n with
        | false => exact hl
        | true =>
          have := insR_len' ts (hisT2 (nB l i) t, (edgA (nB l (i + 1)) (nB l (i + 2)) n, edgB (nB l (i + 1)) (nB l (i + 2)) n), false)
          show (insR ts _).length ≤ 40
          omega
theorem hisE_good {n : Int} {ts : List Ev} (h : Ge n ts) : ∀ (d i : Nat) (now : List Ed) (out : List Ev), i + d ≤ ts.length → Ge n out → Ge n (hisE ts d i now out) ∧ (hisE ts d i now out).length = out.length + d
  | 0, i, now, out, _, ho => ⟨ho, rfl⟩
  | d + 1, i, now, out, hi, ho => by
    have := hisE_good h d (i + 1) (turnL now (hisV ts now i)) (out ++ [hisV ts now i]) (by omega) fun e he => by
      rcases List.mem_append.1 he with he | he
      · exact ho e he
      · rw [List.mem_singleton.1 he]
        exact h (nV ts i) (nV_mem (show i < ts.length by omega))
    refine ⟨this.1, ?_⟩
    show (hisE ts d (i + 1) _ _).length = _
    rw [this.2, List.length_append, List.length_singleton]
    omega
theorem his_good {k : Int} {l : List Int} (hk : 1 ≤ vtT k) : Ge (vtT k) (hisR k l) ∧ (hisR k l).length ≤ 40 := by
  have h1 := hisT_good (l := l) hk l.length 0 (k % 3) [] (fun e he => by simp at he) (by simp)
  change Ge (vtT k) (hisQ k l) ∧ (hisQ k l).length ≤ 40 at h1
  have h2 := hisE_good h1.1 (hisQ k l).length 0 [] [] (by omega) (fun e he => by simp at he)
  refine ⟨h2.1, ?_⟩
  show (hisE (hisQ k l) (hisQ k l).length 0 [] []).length ≤ 40
  rw [h2.2]
  have := h1.2
  simp
  omega
end Go.Proofs.Ythiaaaedfidnjaa.Aj

namespace Go.Proofs.Ythiaaaedfidnjaa.Aj
open Go Go.Proofs.Ythiaaaedfidnjaa.Am Go.RowKit
set_option linter.unusedVariables false
set_option linter.unusedSimpArgs false
set_option maxRecDepth 100000
/-! graphs' bytes, and back -/
theorem Gd.ok {n : Int} {l : List Ed} (h : Gd n l) (hn : n ≤ 4294967296) : ∀ e ∈ l, edOk e := fun e he => by
  have := h.edge e he
  unfold edOk
  omega
theorem Gd.risB {n : Int} {l : List Ed} (h : Gd n l) : risB l = true := by rw [risB_eq]; exact ris_rz.2 h.ris
theorem Gd.tail {n : Int} {e : Ed} {l : List Ed} (h : Gd n (e :: l)) : Gd n l := ⟨(List.pairwise_cons.1 h.ris).2, fun x hx => h.edge x (by simp [hx])⟩
theorem Gd.right {n : Int} {a b : List Ed} (h : Gd n (a ++ b)) : Gd n b := ⟨(List.pairwise_append.1 h.ris).2.1, fun x hx => h.edge x (by simp [hx])⟩
theorem row_some {n u : Int} (hn : n ≤ 4294967296) : ∀ (l : List Ed) (last : Int) (r : List Int) (c : Nat), Gd n l → (∀ e l1, l = e :: l1 → e.1 = u → last < e.2) → ∃ t, rowI u l last r c = some t
  | [], last, r, c, _, _ => ⟨_, rfl⟩
  | e :: l, last, r, c, h, hh => by
    unfold rowI
    cases h1 : (e.1 == u) with
    | false => exact ⟨_, rfl⟩
    | true =>
      have hu : e.1 = u := eq_of_beq h1
      have he := h.edge e (by simp)
      have hw : w64u e.2 = e.2 := w64u_id (by omega) (by omega)
      have hlt := hh e l rfl hu
      rw [hw, decide_eq_false (by omega)]
      refine row_some hn l e.2 _ _ h.tail fun e' l1 he' hu' => ?_
      subst he'
      have := (List.pairwise_cons.1 h.ris).1 e' (by simp)
      rw [less_iff] at this
      omega
theorem row_len {u : Int} : ∀ (l : List Ed) (last : Int) (r : List Int) (c : Nat) (t : List Int × Nat × List Ed), rowI u l last r c = some t → t.1.length + 10 * t.2.2.length ≤ r.length + 10 * l.length ∧ t.2.1 + t.2.2.length = c + l.length
  | [], last, r, c, t, h => by cases h; exact ⟨Nat.le_refl _, rfl⟩
  | e :: l, last, r, c, t, h => by
    unfold rowI at h
    cases h1 : (e.1 == u) with
    | false => rw [h1] at h; cases h; exact ⟨Nat.le_refl _, rfl⟩
    | true =>
      rw [h1] at h
      cases h2 : decide (w64u e.2 ≤ last) with
      | true => rw [h2] at h; cases h
      | false =>
        rw [h2] at h
        have := row_len l _ _ _ t h
        have h3 := putVs1_len (gap last e)
        rw [List.length_append] at this
        rw [List.length_cons]
        omega
theorem put_some {n : Int} (hn : n ≤ 4294967296) : ∀ (f : Nat) (l : List Ed) (nx many : Int) (o : List Int), l.length < f → l.length ≤ 2000 → Gd n l → ∃ t, putO f l nx many o = some t
  | 0, l, _, _, _, h, _, _ => absurd h (by omega)
  | f + 1, [], nx, many, o, _, _, _ => ⟨_, rfl⟩
  | f + 1, e :: l, nx, many, o, h, hl, hg => by
    have he := hg.edge e (by simp)
    have hw : w64u e.1 = e.1 := w64u_id (by omega) (by omega)
    obtain ⟨⟨r, c, l'⟩, hr⟩ := row_some (u := e.1) hn (e :: l) (w64u e.1) [] 0 hg (fun e' l1 he' hu => by cases he'; rw [hw]; omega)
    obtain ⟨a, b, hab, hb⟩ := rowI_one hr rfl
    have hc := (rowI_mono hab).1
    have hlen := (row_len _ _ _ _ _ hr).2
    rw [hw] at hr
    obtain ⟨pre, bs, g1, g2, _⟩ := rowBack (u := e.1) he.1 (by omega) (e :: l) e.1 [] 0 r c l' hr (hg.ok hn) he.1 hg.risB (fun e' l1 he' => by cases he'; exact Int.le_refl _) hl
    unfold putO
    rw [hw, hr]
    simp at hc hlen h
    exact put_some hn f l' _ _ _ (by omega) (by simp at hl; omega) (by rw [g1] at hg; exact hg.right)
theorem putT_some {n : Int} {l : List Ed} (h : Gd n l) (hn : n ≤ 4294967296) (hl : l.length ≤ 2000) : putT l = some (putB l) := by
  obtain ⟨⟨m, o⟩, ho⟩ := put_some hn (l.length + 1) l 0 0 [] (by omega) hl h
  have : putT l = some (putVs [m] ++ o) := by unfold putT; rw [h.risB, ho]; rfl
  unfold putB
  rw [this]
  rfl
theorem putO_len : ∀ (f : Nat) (l : List Ed) (nx many : Int) (o : List Int) (t : Int × List Int), putO f l nx many o = some t → t.2.length ≤ o.length + 30 * l.length
  | 0, _, _, _, _, _, h => by cases h
  | f + 1, [], nx, many, o, t, h => by cases h; exact Nat.le_refl _
  | f + 1, e :: l, nx, many, o, t, h => by
    unfold putO at h
    split at h
    · cases h
    · rename_i r c l' hr
      have h1 := row_len _ _ _ _ _ hr
      obtain ⟨a, b, hab, hb⟩ := rowI_one hr rfl
      have hc := (rowI_mono hab).1
      have h2 := putO_len f l' _ _ _ t h
      have h3 := putVs2_len (w64u (w64u e.1 - nx)) (w64u (c : Int))
      rw [List.length_append, List.length_append] at h2
      simp at h1 hc
      rw [List.length_cons]
      omega
theorem putT_len {l : List Ed} {b : List Int} (h : putT l = some b) : b.length ≤ 10 + 30 * l.length := by
  unfold putT at h
  cases hs : risB l with
  | false => rw [hs] at h; cases h
  | true =>
    rw [hs] at h
    simp only [cond_true] at h
    split at h
    · cases h
    · rename_i m o ho
      cases h
      have h1 := putO_len _ _ _ _ _ _ ho
      have h2 := putVs1_len m
      rw [List.length_append]
      simp at h1
      omega
theorem inB_app {a b : List Int} (h1 : inB a) (h2 : inB b) : inB (a ++ b) := fun x hx => by
  rcases List.mem_append.1 hx with hx | hx
  · exact h1 x hx
  · exact h2 x hx
theorem inB_nil : inB [] := fun x hx => by simp at hx
theorem inB_putF : ∀ (n : Nat) (v : Int), inB (putF n v)
  | 0, v => fun x hx => by
    rw [List.mem_singleton.1 (show x ∈ [w8 v] from hx)]
    exact ⟨w8_ge _, w8_lt _⟩
  | n + 1, v => by
    show inB (bif decide (v ≥ 128) then more v :: putF n (shr7 v) else [w8 v])
    cases decide (v ≥ 128) with
    | true =>
      intro x hx
      rcases List.mem_cons.1 (show x ∈ more v :: putF n (shr7 v) from hx) with rfl | hx
      · exact ⟨w8_ge _, w8_lt _⟩
      · exact inB_putF n _ x hx
    | false =>
      intro x hx
      rw [List.mem_singleton.1 (show x ∈ [w8 v] from hx)]
      exact ⟨w8_ge _, w8_lt _⟩
theorem inB_putVs : ∀ l : List Int, inB (putVs l)
  | [] => inB_nil
  | x :: r => inB_app (inB_putF 9 x) (inB_putVs r)
theorem row_inB {u : Int} : ∀ (l : List Ed) (last : Int) (r : List Int) (c : Nat) (t : List Int × Nat × List Ed), rowI u l last r c = some t → inB r → inB t.1
  | [], last, r, c, t, h, hr => by cases h; exact hr
  | e :: l, last, r, c, t, h, hr => by
    unfold rowI at h
    cases h1 : (e.1 == u) with
    | false => rw [h1] at h; cases h; exact hr
    | true =>
      rw [h1] at h
      cases h2 : decide (w64u e.2 ≤ last) with
      | true => rw [h2] at h; cases h
      | false =>
        rw [h2] at h
        exact row_inB l _ _ _ t h (inB_app hr (inB_putVs _))
theorem putO_inB : ∀ (f : Nat) (l : List Ed) (nx many : Int) (o : List Int) (t : Int × List Int), putO f l nx many o = some t → inB o → inB t.2
  | 0, _, _, _, _, _, h, _ => by cases h
  | f + 1, [], nx, many, o, t, h, ho => by cases h; exact ho
  | f + 1, e :: l, nx, many, o, t, h, ho => by
    unfold putO at h
    split at h
    · cases h
    · rename_i r c l' hr
      exact putO_inB f l' _ _ _ t h (inB_app (inB_app ho (inB_putVs _)) (row_inB _ _ _ _ _ hr inB_nil))
theorem putT_inB {l : List Ed} {b : List Int} (h : putT l = some b) : inB b := by
  unfold putT at h
  cases hs : risB l with
  | false => rw [hs] at h; cases h
  | true =>
    rw [hs] at h
    simp only [cond_true] at h
    split at h
    · cases h
    · rename_i m o ho
      cases h
      exact inB_app (inB_putVs _) (putO_inB _ _ _ _ _ _ ho inB_nil)
/-- What edges are read: such as may be, below what was asked. -/
def Eb (n : Int) (l : List Ed) : Prop := ∀ e ∈ l, edOk e ∧ e.2 < n
theorem edI_edges {n u : Int} : ∀ (f : Nat) (last k : Int) (b : List Int) (o : Bool) (out : List Ed), Eb n out → Eb n (edI n u f last k b o out).1
  | 0, _, _, _, _, _, h => h
  | f + 1, last, k, b, o, out, h => by
    unfold edI
    cases (decide (k > 0) && o) with
    | false => exact h
    | true =>
      refine edI_edges f _ _ _ _ _ ?_
      cases hg : edG n last b o with
      | false => exact h
      | true =>
        intro e he
        rcases List.mem_append.1 (show e ∈ out ++ [(w32 u, w32 (edL last b))] from he) with he | he
        · exact h e he
        · rw [List.mem_singleton.1 he]
          unfold edG at hg
          cases h1 : numO b o with
          | false => rw [h1] at hg; cases hg
          | true =>
            rw [h1] at hg
            simp only [cond_true] at hg
            cases h2 : decide (edL last b < n) with
            | false => rw [h2] at hg; cases hg
            | true =>
              rw [h2] at hg
              have h2 := of_decide_eq_true h2
              have h3 : edL last b ≤ 4294967295 := of_decide_eq_true hg
              have h4 : 0 ≤ edL last b := w64u_ge _
              have h5 : w32 (edL last b) = edL last b := w32_id h4 (by omega)
              have h6 := w32_ge u
              have h7 := w32_lt u
              unfold edOk
              show (0 ≤ w32 u ∧ w32 u < 4294967296 ∧ 0 ≤ w32 (edL last b) ∧ w32 (edL last b) < 4294967296) ∧ w32 (edL last b) < n
              rw [h5]
              omega
theorem edO_edges {n : Int} : ∀ (f : Nat) (nx many : Int) (b : List Int) (o : Bool) (out : List Ed), Eb n out → Eb n (edO n f nx many b o out).1
  | 0, _, _, _, _, _, h => h
  | f + 1, nx, many, b, o, out, h => by
    unfold edO
    cases (decide (many > 0) && o) with
    | false => exact h
    | true =>
      refine edO_edges f _ _ _ _ _ ?_
      exact edI_edges _ _ _ _ _ _ h
theorem edT_edges (n : Int) (b : List Int) (o : Bool) : Eb n (edT n b o).1 := edO_edges _ _ _ _ _ _ fun e he => by simp at he
/-- The bytes tell the edges. -/
theorem readOk_iff {l : List Ed} {b : List Int} {n : Int} (hb : putT l = some b) (hok : ∀ e ∈ l, edOk e) (hl : l.length ≤ 2000) (hbl : b.length ≤ 2000) : readOk n b = true ↔ ∀ e ∈ l, e.2 < n := by
  constructor
  · intro h
    unfold readOk at h
    simp only [Bool.and_eq_true] at h
    obtain ⟨h1, h2, h3⟩ := h
    obtain ⟨b', hb'⟩ := Option.isSome_iff_exists.1 h2
    have he := edT_edges n b true
    have hlen : (edT n b true).1.length ≤ 2000 := Nat.le_trans (edT_out n b true) hbl
    generalize (edT n b true).1 = out at *
    have hpb : putB out = b' := by unfold putB; rw [hb']; rfl
    have e2 : b' = b := by
      refine baOf_inj (putT_inB hb') (putT_inB hb) ?_
      rw [← hpb]
      exact eq_of_beq h3
    subst e2
    have k1 := edBack (n := 4294967296) hb hok hl fun e he => (hok e he).2.2.2
    have k2 := edBack (n := 4294967296) hb' (fun e h => (he e h).1) hlen fun e h => (he e h).1.2.2.2
    rw [k1] at k2
    have : l = out := congrArg Prod.fst k2
    subst this
    exact fun e h => (he e h).2
  · exact fun h => readBack hb hok hl h
end Go.Proofs.Ythiaaaedfidnjaa.Aj
