/- What the functions come to, by the evaluator. Conditions: none; checked here. -/
import Derived.Test.YthiaaaedfidnjaaAjE
import Derived.Test.YthiaaaedfidnjaaAjF
set_option linter.unusedVariables false
set_option linter.unusedSimpArgs false

namespace Go.Proofs.Ythiaaaedfidnjaa.Aj
open Go Go.Proofs.Ythiaaaedfidnjaa.Am Go.RowKit
set_option linter.unusedVariables false
set_option linter.unusedSimpArgs false
set_option maxRecDepth 100000
/-! the reference writes the same bytes -/
theorem edB_ok {e : Ed} : edB e = true ↔ edOk e := by
  unfold edB edOk
  simp only [Bool.and_eq_true, decide_eq_true_eq]
theorem putVs_app : ∀ a b : List Int, putVs (a ++ b) = putVs a ++ putVs b
  | [], b => rfl
  | x :: r, b => by
    show putV x ++ putVs (r ++ b) = putV x ++ putVs r ++ putVs b
    rw [putVs_app r b, List.append_assoc]
theorem lessE_R {a b : Ed} (h : lessE a b = true) : lessR a b = true := by rw [← lessE_eq]; exact h
/-- A row, element by element. -/
theorem rowAp {u : Int} (hu : 0 ≤ u) (hu2 : u < 4294967296) : ∀ (l : List Ed) (q : Ed) (r : List Int) (c : Nat) (t : List Int × Nat × List Ed), rowI u l q.2 r c = some t →
    (∀ e ∈ l, edOk e) → q.1 = u → u < q.2 → q.2 < 4294967296 → risB (q :: l) = true →
    ∃ (gs : List Int) (q' : Ed), t.1 = r ++ putVs gs ∧ t.2.1 = c + cntU u l ∧ q'.1 = u ∧ risB (q' :: t.2.2) = true ∧ (∀ e l1, t.2.2 = e :: l1 → e.1 ≠ u) ∧ (∀ e ∈ t.2.2, e ∈ l) ∧ t.2.2.length ≤ l.length ∧
      ∀ o us, apL (some q) l o us = apL (some q') t.2.2 (o ++ putVs gs) us
  | [], q, r, c, t, h, hok, hq, hq2, hq3, hr => by
    cases h
    exact ⟨[], q, (List.append_nil _).symm, rfl, hq, rfl, (fun _ _ h => by cases h), (fun _ h => h), Nat.le_refl _, fun o us => by show apL (some q) [] o us = apL (some q) [] (o ++ []) us; rw [List.append_nil]⟩
  | e :: l, q, r, c, t, h, hok, hq, hq2, hq3, hr => by
    unfold rowI at h
    cases h1 : (e.1 == u) with
    | false =>
      rw [h1] at h
      cases h
      refine ⟨[], q, (List.append_nil _).symm, ?_, hq, hr, fun e' l1 he => ?_, (fun _ h => h), Nat.le_refl _, fun o us => by show apL (some q) (e :: l) o us = apL (some q) (e :: l) (o ++ []) us; rw [List.append_nil]⟩
      · show c = c + (bif e.1 == u then cntU u l + 1 else 0)
        rw [h1]
        rfl
      · cases he
        simpa using h1
    | true =>
      rw [h1] at h
      have hu' : e.1 = u := eq_of_beq h1
      have hek := hok e (by simp)
      obtain ⟨_, _, he1, he2⟩ := hek
      have hw : w64u e.2 = e.2 := w64u_id he1 (by omega)
      cases h2 : decide (w64u e.2 ≤ q.2) with
      | true => rw [h2] at h; cases h
      | false =>
        rw [h2] at h
        have hlt := of_decide_eq_false h2
        rw [hw] at hlt
        have hr2 := ris_tail hr
        have hle := lessE_R (hr2.2 e l rfl)
        have h : rowI u l (w64u e.2) (r ++ putVs [gap q.2 e]) (c + 1) = some t := h
        rw [hw] at h
        obtain ⟨gs, q', g1, g2, g3, g4, g5, g6, g7, g8⟩ := rowAp hu hu2 l e _ _ t h (fun x hx => hok x (by simp [hx])) hu' (by omega) he2 hr2.1
        have hg := gap_eq (by omega) (show q.2 < e.2 by omega) he2
        refine ⟨gap q.2 e :: gs, q', ?_, ?_, g3, g4, g5, fun x hx => by simp [g6 x hx], by rw [List.length_cons]; omega, fun o us => ?_⟩
        · rw [g1, List.append_assoc]
          congr 1
          show (putV _ ++ []) ++ putVs gs = putV _ ++ putVs gs
          rw [List.append_nil]
        · rw [g2]
          show c + 1 + cntU u l = c + (bif e.1 == u then cntU u l + 1 else 0)
          rw [h1]
          show _ = c + (cntU u l + 1)
          omega
        · have hb : badE (some q) e = false := by
            show (decide (e.1 ≥ e.2) || !lessR q e) = false
            rw [hle, decide_eq_false (show ¬ e.1 ≥ e.2 by omega)]
            rfl
          have hs : sameU (some q) e = true := by
            show (q.1 == e.1) = true
            rw [hq, hu']
            exact beq_self_eq_true _
          have e8 := g8 (o ++ putVs [gap q.2 e]) us
          show (bif badE (some q) e then none else bif sameU (some q) e then apL (some e) l (o ++ putVs [e.2 - q.2 - 1]) us else _) = _
          rw [hb, hs, ← hg]
          simp only [cond_false, cond_true]
          rw [e8, List.append_assoc]
          congr 2
          show (putV _ ++ []) ++ putVs gs = putV _ ++ putVs gs
          rw [List.append_nil]
theorem outAp : ∀ (f : Nat) (l : List Ed) (p : Option Ed) (many : Int) (o : List Int) (t : Int × List Int), putO f l (lastU p + 1) many o = some t → (∀ e ∈ l, edOk e) → risB l = true → -1 ≤ lastU p → lastU p < 4294967296 →
    (∀ e l1, l = e :: l1 → lastU p < e.1 ∧ (match p with | none => True | some q => lessR q e = true)) → 0 ≤ many → many + l.length ≤ 1000000 → l.length ≤ 2000 → apL p l o many = some t
  | 0, l, p, many, o, t, h, _, _, _, _, _, _, _, _ => by cases h
  | f + 1, [], p, many, o, t, h, _, _, _, _, _, _, _, _ => by cases h; rfl
  | f + 1, e :: l, p, many, o, t, h, hok, hr, hp, hp2, hh, hm, hm2, hl => by
    obtain ⟨hu, hu2, he1, he2⟩ := hok e (by simp)
    obtain ⟨hlt, hpl⟩ := hh e l rfl
    have hw : w64u e.1 = e.1 := w64u_id hu (by omega)
    have hw2 : w64u e.2 = e.2 := w64u_id he1 (by omega)
    unfold putO at h
    split at h
    · cases h
    · rename_i r c l' hrow
      rw [hw] at hrow h
      unfold rowI at hrow
      rw [show (e.1 == e.1) = true from beq_self_eq_true _] at hrow
      cases h2 : decide (w64u e.2 ≤ e.1) with
      | true => rw [h2] at hrow; cases hrow
      | false =>
        rw [h2] at hrow
        have hlt2 := of_decide_eq_false h2
        rw [hw2] at hlt2
        have hrow : rowI e.1 l (w64u e.2) ([] ++ putVs [gap e.1 e]) (0 + 1) = some (r, c, l') := hrow
        rw [hw2] at hrow
        obtain ⟨gs, q', g1, g2, g3, g4, g5, g6, g7, g8⟩ := rowAp hu hu2 l e _ _ _ hrow (fun x hx => hok x (by simp [hx])) rfl (by omega) he2 hr
        have hg := gap_eq hu (show e.1 < e.2 by omega) he2
        change r = [] ++ putVs [gap e.1 e] ++ putVs gs at g1
        change c = 0 + 1 + cntU e.1 l at g2
        have hcl : c ≤ 2000 := by
          have : cntU e.1 l ≤ l.length := by
            clear g2 g8 hrow h
            induction l with
            | nil => exact Nat.le_refl _
            | cons x r ih =>
              show (bif x.1 == e.1 then cntU e.1 r + 1 else 0) ≤ r.length + 1
              have hcl : ∀ (r : List Ed), cntU e.1 r ≤ r.length := fun r => by
                induction r with
                | nil => exact Nat.le_refl _
                | cons y r ih =>
                  show (bif y.1 == e.1 then cntU e.1 r + 1 else 0) ≤ r.length + 1
                  cases (y.1 == e.1)
                  · exact Nat.zero_le _
                  · show cntU e.1 r + 1 ≤ _; omega
              have := hcl r
              cases (x.1 == e.1)
              · exact Nat.zero_le _
              · show cntU e.1 r + 1 ≤ _; omega
          rw [List.length_cons] at hl
          omega
        have hcnt : cntU e.1 (e :: l) = c := by
          show (bif e.1 == e.1 then cntU e.1 l + 1 else 0) = c
          rw [beq_self_eq_true, g2]
          show cntU e.1 l + 1 = _
          omega
        have hb : badE p e = false := by
          unfold badE
          rw [decide_eq_false (show ¬ e.1 ≥ e.2 by omega)]
          cases p with
          | none => rfl
          | some q => show (!lessR q e) = false; rw [hpl]; rfl
        have hs : sameU p e = false := by
          cases p with
          | none => rfl
          | some q => show (q.1 == e.1) = false; rw [beq_eq_false_iff_ne]; intro hq; have : lastU (some q) = q.1 := rfl; omega
        have ea : w64u (e.1 - (lastU p + 1)) = e.1 - lastU p - 1 := by rw [w64u_id (by omega) (by omega)]; omega
        have ec : w64u (c : Int) = c := w64u_id (by omega) (by omega)
        have em : w64u (many + 1) = many + 1 := w64u_id (by rw [List.length_cons] at hm2; omega) (by rw [List.length_cons] at hm2; omega)
        have en : w64u (e.1 + 1) = e.1 + 1 := w64u_id (by omega) (by omega)
        rw [ea, ec, em, en] at h
        have hq' : lastU (some q') = e.1 := g3
        have ih := outAp f l' (some q') (many + 1) (o ++ putVs [e.1 - lastU p - 1, (c : Int)] ++ r) t (by rw [hq']; exact h) (fun x hx => hok x (by simp [g6 x hx])) (ris_tail g4).1 (by rw [hq']; omega) (by rw [hq']; omega)
          (fun e' l1 he => by
            have hls := lessE_R ((ris_tail g4).2 e' l1 he)
            refine ⟨?_, hls⟩
            have h3 := less_iff.1 hls
            have h4 := g5 e' l1 he
            rw [hq']
            omega) (by omega) (by rw [List.length_cons] at hm2; have : l'.length ≤ l.length := g7; omega) (by rw [List.length_cons] at hl; have : l'.length ≤ l.length := g7; omega)
        show (bif badE p e then none else bif sameU p e then _ else apL (some e) l (o ++ putVs [e.1 - lastU p - 1, (cntU e.1 (e :: l) : Nat), e.2 - e.1 - 1]) (many + 1)) = some t
        rw [hb, hs, hcnt]
        simp only [cond_false]
        rw [g8, ← ih, g1]
        congr 1
        show o ++ (putV (e.1 - lastU p - 1) ++ (putV (c : Int) ++ (putV (e.2 - e.1 - 1) ++ []))) ++ putVs gs = o ++ (putV (e.1 - lastU p - 1) ++ (putV (c : Int) ++ [])) ++ ([] ++ (putV (gap e.1 e) ++ []) ++ putVs gs)
        rw [hg]
        simp only [List.append_nil, List.nil_append, List.append_assoc]
def risP : Option Ed → List Ed → Bool
  | none, l => risR l
  | some q, l => risR (q :: l)
theorem apL_gd : ∀ (l : List Ed) (p : Option Ed) (o : List Int) (us : Int) (t : Int × List Int), apL p l o us = some t → (∀ e ∈ l, e.1 < e.2) ∧ risP p l = true
  | [], p, o, us, t, h => ⟨by simp, by cases p <;> rfl⟩
  | e :: l, p, o, us, t, h => by
    unfold apL at h
    cases hb : badE p e with
    | true => rw [hb] at h; cases h
    | false =>
      rw [hb] at h
      have key : ∀ o' us', apL (some e) l o' us' = some t → (∀ x ∈ e :: l, x.1 < x.2) ∧ risP p (e :: l) = true := fun o' us' h' => by
        obtain ⟨k1, k2⟩ := apL_gd l (some e) o' us' t h'
        simp only [badE, Bool.or_eq_false_iff, decide_eq_false_iff_not] at hb
        refine ⟨fun x hx => ?_, ?_⟩
        · rcases List.mem_cons.1 hx with rfl | hx
          · omega
          · exact k1 x hx
        · cases p with
          | none => exact k2
          | some q =>
            show (lessR q e && risR (e :: l)) = true
            have : lessR q e = true := by simpa using hb.2
            rw [this]
            exact k2
      simp only [cond_false] at h
      cases hs : sameU p e with
      | true => rw [hs] at h; exact key _ _ h
      | false => rw [hs] at h; exact key _ _ h
/-- Both write the same. -/
theorem apT_eq {l : List Ed} (hok : ∀ e ∈ l, edOk e) (hl : l.length ≤ 2000) : apT l = putT l := by
  cases hp : putT l with
  | some b =>
    unfold putT at hp
    cases hs : risB l with
    | false => rw [hs] at hp; cases hp
    | true =>
      rw [hs] at hp
      simp only [cond_true] at hp
      split at hp
      · cases hp
      · rename_i m o ho
        cases hp
        have := outAp (l.length + 1) l none 0 [] (m, o) ho hok hs (by show -1 ≤ (-1 : Int); omega) (by show (-1 : Int) < _; decide) (fun e l1 he => ⟨by have := hok e (by rw [he]; simp); unfold edOk at this; show (-1 : Int) < e.1; omega, trivial⟩) (by decide) (by omega) hl
        unfold apT
        rw [this]
  | none =>
    cases ha : apT l with
    | none => rfl
    | some b =>
      exfalso
      unfold apT at ha
      split at ha
      · cases ha
      · rename_i us o ho
        obtain ⟨h1, h2⟩ := apL_gd l none [] 0 _ ho
        have hg : Gd 4294967296 l := ⟨ris_rz.1 h2, fun e he => by have := hok e he; unfold edOk at this; have := h1 e he; omega⟩
        have := putT_some hg (by omega) hl
        rw [hp] at this
        cases this
end Go.Proofs.Ythiaaaedfidnjaa.Aj

namespace Go.Proofs.Ythiaaaedfidnjaa.Aj
open Go Go.Proofs.Ythiaaaedfidnjaa.Am Go.RowKit
set_option linter.unusedVariables false
set_option linter.unusedSimpArgs false
set_option maxRecDepth 100000
/-! the reference reads the same edges -/
theorem takeR_mono {m m' : Int} (hm : m ≤ m') : ∀ (b : List Int) (i : Nat) (v x k : Int), takeR m b i v = (x, k, 0) → takeR m' b i v = (x, k, 0)
  | [], i, v, x, k, h => by
    have := congrArg (fun t => t.2.2) h
    exact absurd this (by show ¬ (20 : Int) = 0; decide)
  | c :: r, i, v, x, k, h => by
    unfold takeR at h ⊢
    cases h1 : ((decide (i = 9) && decide (c > 1)) || (decide (i > 0) && c == 0)) with
    | true =>
      rw [h1] at h
      have := congrArg (fun t => t.2.2) h
      exact absurd this (by show ¬ (21 : Int) = 0; decide)
    | false =>
      rw [h1] at h
      cases h2 : decide (c ≥ 128) with
      | true => rw [h2] at h; exact takeR_mono hm r _ _ x k h
      | false =>
        rw [h2] at h
        cases h3 : decide (take7 v c i > m) with
        | true =>
          rw [h3] at h
          have := congrArg (fun t => t.2.2) h
          exact absurd this (by show ¬ (22 : Int) = 0; decide)
        | false =>
          rw [h3] at h
          have := of_decide_eq_false h3
          rw [decide_eq_false (show ¬ take7 v c i > m' by omega)]
          exact h
theorem take_put {v : Int} {r : List Int} (h : 0 ≤ v) (h2 : v ≤ 4294967295) : takeT 9223372036854775807 (putV v ++ r) = (v, ((putV v).length : Int), 0) :=
  takeR_mono (m := 4294967295) (by decide) _ _ _ _ _ (numT_put h h2)
abbrev inN (l : List Int) : Prop := ∀ x ∈ l, 0 ≤ x ∧ x ≤ 4294967295
theorem nb_back : ∀ (xs : List Int) (f : Nat) (o : List Int), inN xs → xs.length < f → nbF f (putVs xs) o = some (o ++ xs)
  | [], 0, o, _, h => absurd h (by simp)
  | [], f + 1, o, _, _ => by show some o = some (o ++ []); rw [List.append_nil]
  | x :: r, 0, o, _, h => absurd h (by simp)
  | x :: r, f + 1, o, hx, h => by
    have h1 := hx x (by simp)
    have hT := take_put (r := putVs r) h1.1 h1.2
    obtain ⟨y, t, hy⟩ := putV_ne x
    show (bif isNilL (putV x ++ putVs r) then some o else bif (takeT 9223372036854775807 (putV x ++ putVs r)).2.2 != 0 then none else nbF f ((putV x ++ putVs r).drop (takeT 9223372036854775807 (putV x ++ putVs r)).2.1.toNat) (o ++ [(takeT 9223372036854775807 (putV x ++ putVs r)).1])) = _
    rw [hT]
    have hn : isNilL (putV x ++ putVs r) = false := by rw [hy]; rfl
    rw [hn]
    show nbF f ((putV x ++ putVs r).drop ((putV x).length : Int).toNat) (o ++ [x]) = _
    rw [Int.toNat_natCast, List.drop_left, nb_back r f (o ++ [x]) (fun z hz => hx z (by simp [hz])) (by simp at h; omega), List.append_assoc]
    rfl
theorem rdIL_stop {n u C k w : Int} {l : List Int} {o : List Ed} (h : ¬ k < C) : rdIL n u C k w l o = some (l, o) := by
  cases l with
  | nil => show (bif decide (k < C) then none else _) = _; rw [decide_eq_false h]; rfl
  | cons x r => show (bif decide (k < C) then _ else _) = _; rw [decide_eq_false h]; rfl
theorem near_to {f g e : Int} (h : f + g + 1 = e) (he : e < 4294967296) (hg : g ≤ 4294967296) : nearO f g = true ∧ nearV f g = e := by
  have h1 : (decide (g > 4294967296) || decide (f + g + 1 ≥ 4294967296)) = false := by
    rw [decide_eq_false (show ¬ g > 4294967296 by omega), decide_eq_false (show ¬ f + g + 1 ≥ 4294967296 by omega)]
    rfl
  unfold nearO nearV nearR
  rw [h1]
  exact ⟨rfl, h⟩
theorem rowNum {u : Int} (hu : 0 ≤ u) (hu2 : u < 4294967296) : ∀ (l : List Ed) (last : Int) (r : List Int) (c : Nat) (r' : List Int) (c' : Nat) (l' : List Ed), rowI u l last r c = some (r', c', l') →
    (∀ e ∈ l, edOk e) → 0 ≤ last → risB l = true → (∀ e l1, l = e :: l1 → u ≤ e.1) →
    ∃ pre gs, l = pre ++ l' ∧ c' = c + pre.length ∧ r' = r ++ putVs gs ∧ inN gs ∧ risB l' = true ∧ (∀ e l1, l' = e :: l1 → u < e.1) ∧
      ∀ n (k C : Int) rest out, (∀ e ∈ pre, e.2 < n) → C = k + pre.length → rdIL n u C k last (gs ++ rest) out = some (rest, out ++ pre)
  | [], last, r, c, r', c', l', h, hok, hl, hr, hh => by
    cases h
    exact ⟨[], [], rfl, rfl, (List.append_nil _).symm, (fun _ h => by simp at h), rfl, (fun _ _ h => by cases h), fun n k C rest out _ hC => by rw [List.append_nil]; exact rdIL_stop (by simp at hC; omega)⟩
  | e :: l, last, r, c, r', c', l', h, hok, hl, hr, hh => by
    unfold rowI at h
    cases h1 : (e.1 == u) with
    | false =>
      rw [h1] at h
      cases h
      refine ⟨[], [], rfl, rfl, (List.append_nil _).symm, (fun _ h => by simp at h), hr, fun e' l1 he => ?_, fun n k C rest out _ hC => by rw [List.append_nil]; exact rdIL_stop (by simp at hC; omega)⟩
      cases he
      have := hh _ _ rfl
      have : e.1 ≠ u := by simpa using h1
      omega
    | true =>
      rw [h1] at h
      have hu' : e.1 = u := eq_of_beq h1
      obtain ⟨_, _, he1, he2⟩ := hok e (by simp)
      have hw : w64u e.2 = e.2 := w64u_id he1 (by omega)
      cases h2 : decide (w64u e.2 ≤ last) with
      | true => rw [h2] at h; cases h
      | false =>
        rw [h2] at h
        have hlt := of_decide_eq_false h2
        rw [hw] at hlt
        have hr2 := ris_tail hr
        have h : rowI u l (w64u e.2) (r ++ putVs [gap last e]) (c + 1) = some (r', c', l') := h
        rw [hw] at h
        obtain ⟨pre, gs, g1, g2, g3, g4, g5, g6, g7⟩ := rowNum hu hu2 l e.2 _ _ r' c' l' h (fun x hx => hok x (by simp [hx])) he1 hr2.1 (fun e' l1 he => by have := less_le (hr2.2 e' l1 he); omega)
        have hg := gap_eq hl (show last < e.2 by omega) he2
        refine ⟨e :: pre, gap last e :: gs, by rw [g1]; rfl, by rw [g2, List.length_cons]; omega, ?_, ?_, g5, g6, fun n k C rest out hpn hC => ?_⟩
        · rw [g3, List.append_assoc]
          congr 1
          show (putV _ ++ []) ++ putVs gs = putV _ ++ putVs gs
          rw [List.append_nil]
        · intro x hx
          rcases List.mem_cons.1 hx with rfl | hx
          · omega
          · exact g4 x hx
        · obtain ⟨n1, n2⟩ := near_to (f := last) (g := gap last e) (e := e.2) (by omega) he2 (by omega)
          have hen := hpn e (by simp)
          rw [List.length_cons] at hC
          show (bif decide (k < C) then (bif !nearO last (gap last e) || decide (w64u (nearV last (gap last e)) ≥ n) then none else rdIL n u C (k + 1) (nearV last (gap last e)) (gs ++ rest) (out ++ [(w32 u, w32 (nearV last (gap last e)))])) else _) = _
          rw [n1, n2, hw, decide_eq_true (show k < C by omega), decide_eq_false (show ¬ e.2 ≥ n by omega), w32_id hu hu2, w32_id he1 he2]
          simp only [Bool.not_true, Bool.or_self, cond_true, cond_false]
          rw [g7 n (k + 1) C rest _ (fun x hx => hpn x (by simp [hx])) (by omega), List.append_assoc]
          congr 3
          rw [← hu']
          rfl
theorem outNum : ∀ (f : Nat) (l : List Ed) (nx many : Int) (o : List Int) (m' : Int) (o' : List Int), putO f l nx many o = some (m', o') → (∀ e ∈ l, edOk e) → risB l = true → 0 ≤ nx → (∀ e l1, l = e :: l1 → nx ≤ e.1) → l.length ≤ 2000 → 0 ≤ many → many + l.length ≤ 1000000 →
    ∃ (k : Nat) (gs : List Int), m' = many + k ∧ k ≤ l.length ∧ o' = o ++ putVs gs ∧ inN gs ∧ k ≤ gs.length ∧
      ∀ n out F, k + 1 ≤ F → (∀ e ∈ l, e.2 < n) → rdOL n F (nx - 1) gs out = some (out ++ l)
  | 0, l, nx, many, o, m', o', h, _, _, _, _, _, _, _ => by cases h
  | f + 1, [], nx, many, o, m', o', h, _, _, _, _, _, _, _ => by
    cases h
    refine ⟨0, [], by omega, Nat.zero_le _, (List.append_nil _).symm, (fun _ h => by simp at h), Nat.le_refl _, fun n out F hF _ => ?_⟩
    cases F with
    | zero => simp at hF
    | succ F => show some out = some (out ++ []); rw [List.append_nil]
  | f + 1, e :: l, nx, many, o, m', o', h, hok, hr, hnx, hh, hn, hm, hm2 => by
    obtain ⟨hu, hu2, he1, he2⟩ := hok e (by simp)
    have hnu := hh e l rfl
    have hw : w64u e.1 = e.1 := w64u_id hu (by omega)
    unfold putO at h
    split at h
    · cases h
    · rename_i r c l' hrow
      rw [hw] at hrow h
      obtain ⟨pre, gs, g1, g2, g3, g4, g5, g6, g7⟩ := rowNum hu hu2 (e :: l) e.1 [] 0 r c l' hrow hok hu hr (fun e' l1 he => by cases he; exact Int.le_refl _)
      obtain ⟨a, b, hab, hb⟩ := rowI_one hrow rfl
      have hc : 0 + 1 ≤ c := (rowI_mono hab).1
      have hpre : pre.length = c := by omega
      have hlen := congrArg List.length g1
      rw [List.length_append] at hlen
      rw [w64u_id (x := e.1 + 1) (by omega) (by omega), w64u_id (x := many + 1) (by omega) (by omega), w64u_id (x := e.1 - nx) (by omega) (by omega), w64u_id (x := (c : Int)) (by omega) (by omega)] at h
      obtain ⟨k, gs', q1, q2, q3, q4, q5, q6⟩ := outNum f l' (e.1 + 1) (many + 1) _ m' o' h (fun x hx => hok x (by rw [g1]; simp [hx])) g5 (by omega) (fun e' l1 he => by have := g6 e' l1 he; omega) (by omega) (by omega) (by omega)
      refine ⟨k + 1, (e.1 - nx) :: (c : Int) :: (gs ++ gs'), by omega, by omega, ?_, ?_, ?_, fun n out F hF hpn => ?_⟩
      · rw [q3, g3]
        show o ++ (putV (e.1 - nx) ++ (putV (c : Int) ++ [])) ++ ([] ++ putVs gs) ++ putVs gs' = o ++ (putV (e.1 - nx) ++ (putV (c : Int) ++ putVs (gs ++ gs')))
        rw [putVs_app]
        simp only [List.append_nil, List.nil_append, List.append_assoc]
      · intro x hx
        rcases List.mem_cons.1 hx with rfl | hx
        · omega
        rcases List.mem_cons.1 hx with rfl | hx
        · omega
        rcases List.mem_append.1 hx with hx | hx
        · exact g4 x hx
        · exact q4 x hx
      · rw [List.length_cons, List.length_cons, List.length_append]
        omega
      · cases F with
        | zero => simp at hF
        | succ F =>
          obtain ⟨n1, n2⟩ := near_to (f := nx - 1) (g := e.1 - nx) (e := e.1) (by omega) hu2 (by omega)
          have e7 := g7 n 0 (c : Int) gs' out (fun x hx => hpn x (by rw [g1]; simp [hx])) (by rw [hpre]; omega)
          show (bif !nearO (nx - 1) (e.1 - nx) then none else match rdIL n (nearV (nx - 1) (e.1 - nx)) (c : Int) 0 (nearV (nx - 1) (e.1 - nx)) (gs ++ gs') out with | none => none | some (l', o') => rdOL n F (nearV (nx - 1) (e.1 - nx)) l' o') = _
          rw [n1, n2, e7]
          simp only [Bool.not_true, cond_false]
          have := q6 n (out ++ pre) F (by omega) (fun x hx => hpn x (by rw [g1]; simp [hx]))
          rw [show e.1 + 1 - 1 = e.1 by omega] at this
          rw [this, List.append_assoc, ← g1]
/-- What is written comes back from the reference. -/
theorem rd_back {l : List Ed} {b : List Int} {n : Int} (h : putT l = some b) (hok : ∀ e ∈ l, edOk e) (hn : l.length ≤ 2000) (hv : ∀ e ∈ l, e.2 < n) : rdT n b = some l := by
  have hap := apT_eq hok hn
  rw [h] at hap
  unfold putT at h
  cases hs : risB l with
  | false => rw [hs] at h; cases h
  | true =>
    rw [hs] at h
    simp only [cond_true] at h
    split at h
    · cases h
    · rename_i m o ho
      cases h
      obtain ⟨k, gs, q1, q2, q3, q4, q5, q6⟩ := outNum _ l 0 0 [] m o ho hok hs (by decide) (fun e l1 he => (hok e (by rw [he]; simp)).1) hn (by decide) (by omega)
      rw [List.nil_append] at q3
      subst q3
      have hm : 0 ≤ m ∧ m ≤ 4294967295 := by omega
      have e1 : putVs [m] ++ putVs gs = putVs (m :: gs) := by
        show (putV m ++ []) ++ putVs gs = putV m ++ putVs gs
        rw [List.append_nil]
      have hnum : nbT (putVs [m] ++ putVs gs) = some (m :: gs) := by
        rw [e1]
        have hlen : (m :: gs).length ≤ (putVs (m :: gs)).length := by
          have : ∀ xs : List Int, xs.length ≤ (putVs xs).length := fun xs => by
            induction xs with
            | nil => exact Nat.le_refl _
            | cons x r ih =>
              obtain ⟨y, t, hy⟩ := putV_ne x
              show r.length + 1 ≤ (putV x ++ putVs r).length
              rw [hy, List.length_append, List.length_cons]
              omega
          exact this _
        have := nb_back (m :: gs) ((putVs (m :: gs)).length + 1) [] (fun x hx => by
          rcases List.mem_cons.1 hx with rfl | hx
          · exact hm
          · exact q4 x hx) (by omega)
        rw [List.nil_append] at this
        exact this
      have hO := q6 n [] (gs.length + 1) (by omega) hv
      rw [List.nil_append] at hO
      unfold rdT
      rw [hnum]
      show (match rdOL n (gs.length + 1) (-1) gs [] with | none => none | some l => match apT l with | none => none | some b' => bif (baOf b').toList == (baOf (putVs [m] ++ putVs gs)).toList then some l else none) = _
      rw [show (0 : Int) - 1 = -1 from rfl] at hO
      rw [hO]
      simp only [hap]
      rw [beq_self_eq_true]
      rfl
theorem rdIL_good {n u c : Int} : ∀ (l : List Int) (k w : Int) (o : List Ed) (t : List Int × List Ed), rdIL n u c k w l o = some t → (∀ x ∈ l, 0 ≤ x) → -1 ≤ w → Eb n o → Eb n t.2 ∧ t.2.length + t.1.length ≤ o.length + l.length ∧ (∀ x ∈ t.1, x ∈ l)
  | [], k, w, o, t, h, hl, hw, ho => by
    have h : (bif decide (k < c) then none else some (([] : List Int), o)) = some t := h
    cases hk : decide (k < c) with
    | true => rw [hk] at h; cases h
    | false => rw [hk] at h; cases h; exact ⟨ho, Nat.le_refl _, fun _ h => h⟩
  | x :: r, k, w, o, t, h, hl, hw, ho => by
    unfold rdIL at h
    cases hk : decide (k < c) with
    | false => rw [hk] at h; cases h; exact ⟨ho, Nat.le_refl _, fun _ h => h⟩
    | true =>
      rw [hk] at h
      simp only [cond_true] at h
      cases hn : (!nearO w x || decide (w64u (nearV w x) ≥ n)) with
      | true => rw [hn] at h; cases h
      | false =>
        rw [hn] at h
        simp only [Bool.or_eq_false_iff, Bool.not_eq_false'] at hn
        obtain ⟨b1, b2, b3⟩ := near_bd hw (hl x (by simp)) hn.1
        have hlt := of_decide_eq_false hn.2
        have e64 : w64u (nearV w x) = nearV w x := w64u_id (by omega) (by omega)
        have e32 : w32 (nearV w x) = nearV w x := w32_id (by omega) (by omega)
        rw [e64] at hlt
        have := rdIL_good r (k + 1) (nearV w x) _ t h (fun y hy => hl y (by simp [hy])) (by omega) (fun e he => by
          rcases List.mem_append.1 he with he | he
          · exact ho e he
          · rw [List.mem_singleton.1 he]
            have h6 := w32_ge u
            have h7 := w32_lt u
            unfold edOk
            show (0 ≤ w32 u ∧ w32 u < 4294967296 ∧ 0 ≤ w32 (nearV w x) ∧ w32 (nearV w x) < 4294967296) ∧ w32 (nearV w x) < n
            rw [e32]
            omega)
        refine ⟨this.1, ?_, fun y hy => by simp [this.2.2 y hy]⟩
        have h9 := this.2.1
        rw [List.length_append, List.length_singleton] at h9
        rw [List.length_cons]
        omega
theorem rdOL_good {n : Int} : ∀ (f : Nat) (u : Int) (l : List Int) (o o' : List Ed), rdOL n f u l o = some o' → (∀ x ∈ l, 0 ≤ x) → -1 ≤ u → Eb n o → Eb n o' ∧ o'.length ≤ o.length + l.length
  | 0, _, _, _, _, h, _, _, _ => by cases h
  | f + 1, u, [], o, o', h, hl, hu, ho => by cases h; exact ⟨ho, Nat.le_refl _⟩
  | f + 1, u, x :: r, o, o', h, hl, hu, ho => by
    unfold rdOL at h
    cases hn : (!nearO u x) with
    | true => rw [hn] at h; cases h
    | false =>
      rw [hn] at h
      obtain ⟨b1, b2, b3⟩ := near_bd hu (hl x (by simp)) (by simpa using hn)
      cases r with
      | nil => cases h
      | cons c r' =>
        simp only [cond_false] at h
        split at h
        · cases h
        · rename_i l' o1 hr
          obtain ⟨k1, k2, k3⟩ := rdIL_good _ _ _ _ _ hr (fun y hy => hl y (by simp [hy])) (by omega) ho
          have := rdOL_good f _ _ _ _ h (fun y hy => hl y (by have := k3 y hy; simp [this])) (by omega) k1
          refine ⟨this.1, ?_⟩
          have h9 := this.2
          simp only at k2
          rw [List.length_cons, List.length_cons]
          omega
theorem rd_only {l : List Ed} {b : List Int} {n : Int} (hb : inB b) (hbl : b.length ≤ 2000) (h : rdT n b = some l) : putT l = some b ∧ Eb n l ∧ l.length ≤ b.length := by
  unfold rdT at h
  split at h
  · cases h
  · cases h
  · rename_i m r hq
    obtain ⟨hv, hvl⟩ := nbF_ok (b.length + 1) b [] (m :: r) hq (fun x hx => by simp at hx)
    split at h
    · cases h
    · rename_i l1 hl1
      obtain ⟨g1, g2⟩ := rdOL_good _ _ _ _ _ hl1 (fun x hx => (hv x (by simp [hx])).1) (by omega) (fun e he => by simp at he)
      simp only [List.length_nil, List.length_cons] at hvl g2
      split at h
      · cases h
      · rename_i b' hb'
        cases hc : ((baOf b').toList == (baOf b).toList) with
        | false => rw [hc] at h; cases h
        | true =>
          rw [hc] at h
          cases h
          rw [apT_eq (fun e he => (g1 e he).1) (by omega)] at hb'
          have : b' = b := baOf_inj (putT_inB hb') hb (eq_of_beq hc)
          subst this
          exact ⟨hb', g1, by omega⟩
/-- Both read the same. -/
theorem read_same {b : List Int} {n : Int} (hb : inB b) (hbl : b.length ≤ 2000) : readE n b = rdE n b ∧ readL n b = rdL n b := by
  unfold readE readL rdE rdL
  cases hq : readOk n b with
  | true =>
    have h := hq
    unfold readOk at h
    simp only [Bool.and_eq_true] at h
    obtain ⟨h1, h2, h3⟩ := h
    obtain ⟨b', hb'⟩ := Option.isSome_iff_exists.1 h2
    have he := edT_edges n b true
    have hlen : (edT n b true).1.length ≤ 2000 := Nat.le_trans (edT_out n b true) hbl
    have hpb : putB (edT n b true).1 = b' := by unfold putB; rw [hb']; rfl
    have e2 : b' = b := by
      refine baOf_inj (putT_inB hb') hb ?_
      rw [← hpb]
      exact eq_of_beq h3
    subst e2
    rw [rd_back hb' (fun e h => (he e h).1) hlen (fun e h => (he e h).2)]
    exact ⟨rfl, rfl⟩
  | false =>
    cases hr : rdT n b with
    | none => exact ⟨rfl, rfl⟩
    | some l =>
      exfalso
      obtain ⟨k1, k2, k3⟩ := rd_only hb hbl hr
      have := readBack k1 (fun e he => (k2 e he).1) (by omega) (fun e he => (k2 e he).2)
      rw [hq] at this
      cases this
end Go.Proofs.Ythiaaaedfidnjaa.Aj
