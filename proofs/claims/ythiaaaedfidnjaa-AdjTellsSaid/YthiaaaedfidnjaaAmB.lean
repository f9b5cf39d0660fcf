/- The evaluator of typed values and its soundness, part 2. Conditions: none; checked here. -/
import Derived.Test.YthiaaaedfidnjaaAmA
import Derived.Maps.AppendAt
import Derived.Deep.Upon
import Derived.Laws.Tables
import Derived.Laws.IdiomStrings
set_option linter.unusedVariables false
set_option linter.unusedSimpArgs false

namespace Go.Proofs.Ythiaaaedfidnjaa.Am
open Go Go.RowKit
section
variable {w0 : Base} {M0 : Mem} {g : G} {st : St} {a : Act} {w : World}

theorem CL.enc_slice : ∀ (e : CL) (y : e.den), ∀ v ∈ e.enc y, True := fun _ _ _ _ => trivial

/-- An element's cells as a list of values. -/
theorem sees_list : ∀ (e : CL) {M0 M : Mem} {b o : Nat} {y : e.den}, e.sees M0 M b o y →
    ∃ us : List Value, us.length = e.size ∧ (∀ j u, us[j]? = some u → M0 b (o + j) = some u) ∧ (∀ u ∈ us, u.oneCell' = true) ∧
      ∀ (N : Mem) (b' o' : Nat), (∀ j u, us[j]? = some u → N b' (o' + j) = some u) → e.sees N M b' o' y
  | .int k, M0, M, b, o, y, h => ⟨[.int k y], rfl, fun j u hu => by cases j <;> simp at hu; subst hu; exact h, by simp [Value.oneCell'], fun N b' o' hN => hN 0 _ rfl⟩
  | .bool, M0, M, b, o, y, h => ⟨[.bool y], rfl, fun j u hu => by cases j <;> simp at hu; subst hu; exact h, by simp [Value.oneCell'], fun N b' o' hN => hN 0 _ rfl⟩
  | .str, M0, M, b, o, y, h => ⟨[.string y], rfl, fun j u hu => by cases j <;> simp at hu; subst hu; exact h, by simp [Value.oneCell'], fun N b' o' hN => hN 0 _ rfl⟩
  | .sl e, M0, M, b, o, y, h => by
    obtain ⟨u, hu, hr⟩ := h
    refine ⟨[u], rfl, fun j u' hu' => by cases j <;> simp at hu'; subst hu'; exact hu, ?_, fun N b' o' hN => ⟨u, hN 0 _ rfl, hr⟩⟩
    intro u' hu'
    simp at hu'
    subst hu'
    rcases hr with ⟨_, _, rfl⟩ | ⟨_, _, _, _, rfl, _⟩ <;> rfl
  | .cons c r, M0, M, b, o, y, h => by
    obtain ⟨us, a1, a2, a3, a4⟩ := sees_list c h.1
    obtain ⟨vs, b1, b2, b3, b4⟩ := sees_list r h.2
    refine ⟨us ++ vs, by simp [CL.size, a1, b1], fun j u hu => ?_, fun u hu => ?_, fun N b' o' hN => ⟨a4 N b' o' fun j u hu => hN j u ?_, b4 N b' _ fun j u hu => ?_⟩⟩
    · rw [List.getElem?_append] at hu
      split at hu
      · exact a2 j u hu
      · have := b2 _ u hu
        rwa [a1, Nat.add_assoc, show c.size + (j - c.size) = j by omega] at this
    · simp at hu
      rcases hu with hu | hu
      · exact a3 u hu
      · exact b3 u hu
    · rw [List.getElem?_append_left]
      · exact hu
      · rcases Nat.lt_or_ge j us.length with h | h
        · exact h
        · simp [List.getElem?_eq_none h] at hu
    · have := hN (c.size + j) u (by rw [List.getElem?_append_right (by omega)]; rwa [a1, show c.size + j - c.size = j by omega])
      rwa [← Nat.add_assoc] at this

/-- A row's cells as a list of values. -/
theorem row_list (e : CL) {M0 M : Mem} {b : Nat} : ∀ {xs : List e.den} {o : Nat}, (∀ i y, xs[i]? = some y → e.sees M0 M b (o + i * e.size) y) →
    ∃ us : List Value, us.length = xs.length * e.size ∧ (∀ j u, us[j]? = some u → M0 b (o + j) = some u) ∧ (∀ u ∈ us, u.oneCell' = true) ∧
      ∀ (N : Mem) (b' o' : Nat), (∀ j u, us[j]? = some u → N b' (o' + j) = some u) → ∀ i y, xs[i]? = some y → e.sees N M b' (o' + i * e.size) y
  | [], o, _ => ⟨[], by simp, fun j u h => by simp at h, by simp, fun _ _ _ _ i y h => by simp at h⟩
  | x :: xs, o, h => by
    obtain ⟨us, a1, a2, a3, a4⟩ := sees_list e (h 0 x rfl)
    obtain ⟨vs, b1, b2, b3, b4⟩ := row_list e (xs := xs) (o := o + e.size) fun i y hy => by
      have := h (i + 1) y (by simpa using hy)
      rwa [show o + (i + 1) * e.size = o + e.size + i * e.size by rw [Nat.add_mul]; omega] at this
    refine ⟨us ++ vs, by simp [a1, b1, Nat.add_mul]; omega, fun j u hu => ?_, fun u hu => ?_, fun N b' o' hN i y hy => ?_⟩
    · rw [List.getElem?_append] at hu
      split at hu
      · have := a2 j u hu
        simpa using this
      · have := b2 _ u hu
        rwa [a1, show o + e.size + (j - e.size) = o + j by omega] at this
    · simp at hu
      rcases hu with hu | hu
      · exact a3 u hu
      · exact b3 u hu
    · cases i with
      | zero =>
        simp at hy; subst hy
        rw [Nat.zero_mul]
        exact a4 N b' o' fun j u hu => hN j u (by
          rw [List.getElem?_append_left]
          · exact hu
          · rcases Nat.lt_or_ge j us.length with h | h
            · exact h
            · simp [List.getElem?_eq_none h] at hu)
      | succ i =>
        rw [show o' + (i + 1) * e.size = o' + e.size + i * e.size by rw [Nat.add_mul]; omega]
        refine b4 N b' (o' + e.size) (fun j u hu => ?_) i y (by simpa using hy)
        have := hN (e.size + j) u (by rw [List.getElem?_append_right (by omega)]; rwa [a1, show e.size + j - e.size = j by omega])
        rwa [← Nat.add_assoc] at this

theorem elemOfT_some {P : Program} {T E : TypeId} {e : CL} (h : elemOfT P T = some (E, e)) :
    ∃ i z, P.underlying T = some (.slice E) ∧ P.info? E = some i ∧ i.zero = some z ∧ e.size = i.size ∧ z.cells.size = i.size ∧ 0 < i.bytes ∧ clOf P 8 E = some e := by
  unfold elemOfT at h
  split at h
  · rename_i E' hd
    split at h
    · rename_i c hc
      split at h
      · rename_i i hi
        split at h
        · rename_i z hz
          have h1 := (bif_some h).1
          have h2 := Option.some.inj (bif_some h).2
          simp at h2
          obtain ⟨rfl, rfl⟩ := h2
          simp at h1
          exact ⟨i, z, hd, hi, hz, h1.1.1, h1.1.2, Nat.pos_of_ne_zero (by intro h0; simp [h0] at h1), hc⟩
        · simp at h
      · simp at h
    · simp at h
  · simp at h

theorem byteCells_get {s : ByteArray} {j : Nat} {u : Value} (h : (byteCells s)[j]? = some u) : ∃ n : Int, (ofBA s)[j]? = some n ∧ u = .int .u8 n := by
  unfold byteCells at h
  rw [List.getElem?_map] at h
  cases hb : s.data.toList[j]? with
  | none => rw [hb] at h; simp at h
  | some b =>
    rw [hb] at h
    simp at h
    exact ⟨_, by unfold ofBA; rw [List.getElem?_map, hb]; rfl, h.symm⟩

theorem ofBA_length (s : ByteArray) : (ofBA s).length = s.size := by
  unfold ofBA; rw [List.length_map, Array.length_toList]; rfl

/-- What is appended, or copied. -/
theorem srcOf_sound {P : Program} {T2 : TypeId} {e : CL} {y : C} {v : Value} {ys : List e.den} (inv : Inv w0 M0 g st a w) (hy : RelC g w y v) (h : srcOf P T2 e y = some ys) :
    ∃ news, Src P e.size T2 v ys.length news w ∧ (∀ (N : Mem) (b' o' : Nat), (∀ j u, news[j]? = some u → N b' (o' + j) = some u) → ∀ i z, ys[i]? = some z → e.sees N g.M b' (o' + i * e.size) z) ∧
      (∀ m, m ≤ ys.length → (Builtin.firstCells e.size m v).run P w = .ok (news.take (m * e.size)).toArray w) := by
  have row : ∀ {M1 : Mem} {E' : TypeId} {xs : List e.den} {b o cap : Nat}, P.underlying T2 = some (.slice E') → (∀ b o u, M1 b o = some u → b = b → memOf w b o = some u) →
      (∀ i y, xs[i]? = some y → e.sees M1 g.M b (o + i * e.size) y) →
      ∃ news, Src P e.size T2 (.slice (some ⟨b, o, none⟩) xs.length cap) xs.length news w ∧ (∀ (N : Mem) (b' o' : Nat), (∀ j u, news[j]? = some u → N b' (o' + j) = some u) → ∀ i z, xs[i]? = some z → e.sees N g.M b' (o' + i * e.size) z) ∧
        (∀ m, m ≤ xs.length → (Builtin.firstCells e.size m (.slice (some ⟨b, o, none⟩) xs.length cap)).run P w = .ok (news.take (m * e.size)).toArray w) := by
    intro M1 E' xs b o cap hd hM hs
    obtain ⟨us, a1, a2, a3, a4⟩ := row_list e hs
    refine ⟨us, Src.ofSlice w hd _ _ _ us a1 (fun j u hu => by rw [addr_add]; exact hM _ _ _ (a2 j u hu) rfl) a3, a4, fun m hm => ?_⟩
    have hml := Nat.mul_le_mul_right e.size hm
    refine run_firstCells_some w e.size m _ _ _ (us.take (m * e.size)) (by simp; omega) fun j u hu => ?_
    rw [addr_add]
    refine hM _ _ _ (a2 j u ?_) rfl
    rw [List.getElem?_take] at hu
    split at hu
    · exact hu
    · simp at hu
  have nil : ∀ {E' : TypeId}, P.underlying T2 = some (.slice E') → ∃ news, Src P e.size T2 (.slice none 0 0) 0 news w ∧ (∀ (N : Mem) (b' o' : Nat), (∀ j u, news[j]? = some u → N b' (o' + j) = some u) → ∀ i z, ([] : List e.den)[i]? = some z → e.sees N g.M b' (o' + i * e.size) z) ∧
      (∀ m, m ≤ 0 → (Builtin.firstCells e.size m (.slice none 0 0)).run P w = .ok (news.take (m * e.size)).toArray w) :=
    fun hd => ⟨[], Src.ofNil w hd 0, fun _ _ _ _ i z hz => by simp at hz, fun m _ => by simp [Builtin.firstCells]⟩
  unfold srcOf at h
  split at h
  · rename_i E' hd
    split at h
    · rename_i t e' nl xs
      split at h
      · rename_i hee
        have := CL.beq_eq hee
        subst this
        simp [castL] at h
        subst h
        cases t with
        | ro =>
          rcases hy with ⟨_, rfl, rfl⟩ | ⟨_, b, o, cap, rfl, _, h3⟩
          · exact nil hd
          · exact row hd (fun b o u hu _ => (inv.ok.mem _ _ _ hu).1) h3
        | own gr s =>
          rcases hy with ⟨_, rfl, rfl⟩ | ⟨_, b, o, cap, n, h1, rfl, h3, h4, h5, h6, h7, h8⟩
          · exact nil hd
          · exact row (M1 := memOf w) hd (fun b o u hu _ => hu) h8
      · simp at h
    · rename_i t e' xs
      split at h
      · rename_i hee
        have := CL.beq_eq hee
        subst this
        simp [castL] at h
        subst h
        cases t with
        | ro =>
          obtain ⟨b, o, rfl, h3⟩ := hy
          exact row hd (fun b o u hu _ => (inv.ok.mem _ _ _ hu).1) h3
        | own gr s =>
          obtain ⟨b, o, n, h1, rfl, h3, h4, h5⟩ := hy
          exact row (M1 := memOf w) hd (fun b o u hu _ => hu) h5
      · simp at h
    · rename_i t
      simp at h
      subst h
      have : v = .slice none 0 0 := by cases t <;> exact hy
      subst this
      exact nil hd
    · simp at h
  · rename_i hd
    split at h
    · rename_i t s
      split at h
      · simp at h
        subst h
        have : v = .string s := by cases t <;> exact hy.1
        subst this
        refine ⟨byteCells s, ?_, fun N b' o' hN i z hz => ?_, fun m hm => ?_⟩
        · have := Src.ofString (P := P) w hd s
          rw [ofBA_length]; exact this
        · have hb : ∃ u, (byteCells s)[i]? = some u := by
            have hlt : i < (ofBA s).length := by
              rcases Nat.lt_or_ge i (ofBA s).length with h | h
              · exact h
              · simp [List.getElem?_eq_none h] at hz
            exact ⟨_, List.getElem?_eq_getElem (by rw [byteCells_length, ← ofBA_length]; exact hlt)⟩
          obtain ⟨u, hu⟩ := hb
          obtain ⟨n, hn, rfl⟩ := byteCells_get hu
          rw [hz] at hn
          obtain rfl := Option.some.inj hn
          have := hN i _ hu
          simpa [CL.sees, CL.size] using this
        · rw [ofBA_length] at hm
          simp only [Builtin.firstCells, Sem.run_pure]
          congr 1
          apply Array.ext'
          simp only [Array.toList_map, byteCells, ← List.map_take, CL.size, Nat.mul_one]
          congr 1
          have : (s.extract 0 m).data = s.data.extract 0 m := ByteArray.data_extract
          rw [this]
          simp
      · simp at h
    · simp at h
  · simp at h
end
end Go.Proofs.Ythiaaaedfidnjaa.Am

namespace Go.Proofs.Ythiaaaedfidnjaa.Am
open Go Go.RowKit
section
variable {w0 : Base} {M0 : Mem} {g : G} {st : St} {a : Act} {w : World}

theorem Inv.newOwn {w1 : World} (inv : Inv w0 M0 g st a w) (hk : Below w.heap.size w w1) (hs : w.heap.size < w1.heap.size) (gr : Nat) (hgr : g.ω gr = none) :
    Inv w0 M0 (g.add gr w.heap.size) st a w1 := by
  refine (inv.grow hk).add gr w.heap.size hgr (fun hb => ?_) (fun o => ?_) (fun r hr => ?_) ⟨.inl inv.ok.frame.size, hs⟩
  · have := (inv.ok.newb _ hb).2; omega
  · cases hm : g.M w.heap.size o with
    | none => rfl
    | some u => have := mem_lt inv.ok hm; omega
  · have := (inv.ok.newo r _ hr).2; omega

theorem rows_append {e : CL} {N M : Mem} {b o : Nat} {xs ys : List e.den} (h1 : ∀ i y, xs[i]? = some y → e.sees N M b (o + i * e.size) y)
    (h2 : ∀ i y, ys[i]? = some y → e.sees N M b (o + xs.length * e.size + i * e.size) y) : ∀ i y, (xs ++ ys)[i]? = some y → e.sees N M b (o + i * e.size) y := by
  intro i y hy
  rw [List.getElem?_append] at hy
  split at hy
  · exact h1 i y hy
  · have := h2 _ y hy
    rwa [Nat.add_assoc, ← Nat.add_mul, show xs.length + (i - xs.length) = i by omega] at this

theorem nextcap_fits {need cap b : Nat} (hg : cap < need) (hf : need * b ≤ 2 ^ 46) : Builtin.nextslicecap need cap * b ≤ 281474976710656 := by
  have h1 := nextslicecap_le hg
  have h2 := Nat.mul_le_mul_right b h1
  rw [Nat.mul_assoc] at h2
  have : (2 : Nat) ^ 46 = 70368744177664 := rfl
  omega
theorem need_fits {need b : Nat} (hb : 0 < b) (hf : need * b ≤ 2 ^ 46) : need ≤ 2 ^ 46 := Nat.le_trans (Nat.le_mul_of_pos_right _ hb) hf

theorem memOf_alloc {us : Array Value} {T : TypeId} {j : Nat} : memOf (w.alloc (.cells us T)) w.heap.size j = us[j]? := by
  have : (w.alloc (.cells us T)).heap[({ block := w.heap.size, off := j } : Addr).block]? = some (.cells us T) := by
    show (w.heap.push _)[w.heap.size]? = _
    simp
  unfold memOf World.cell?
  rw [this]
  rfl
theorem ownB_alloc {us : Array Value} {T : TypeId} : OwnB (w.alloc (.cells us T)) w.heap.size us.size := by
  have : (w.alloc (.cells us T)).heap[w.heap.size]? = some (.cells us T) := by
    show (w.heap.push _)[w.heap.size]? = _
    simp
  exact ⟨us, T, (0, 0), this, rfl, .inl rfl⟩
theorem grownCap_le {need old : Nat} {E : TypeId} : need ≤ grownCap w need old E := by
  simp [grownCap, Question.cut]

/-- append that lays a new array. -/
theorem append_grow {P : Program} {T T2 E ty : TypeId} {e : CL} {i : TypeInfo} {z : Value} (hT : P.underlying T = some (.slice E)) (hi : P.info? E = some i) (hz : i.zero = some z) (hsz : e.size = i.size) (hzs : z.cells.size = i.size) (hb : 0 < i.bytes)
    (inv : Inv w0 M0 g st a w) {gr : Nat} (hgr : g.ω gr = none) {xs ys : List e.den} {vy : Value} {news olds : List Value} (hsrc : Src P e.size T2 vy ys.length news w)
    (hn : ∀ (N : Mem) (b' o' : Nat), (∀ j u, news[j]? = some u → N b' (o' + j) = some u) → ∀ i z, ys[i]? = some z → e.sees N g.M b' (o' + i * e.size) z)
    (ho : ∀ (N : Mem) (b' o' : Nat), (∀ j u, olds[j]? = some u → N b' (o' + j) = some u) → ∀ i z, xs[i]? = some z → e.sees N g.M b' (o' + i * e.size) z)
    {base : Option Addr} {cap : Nat} (hold : (Builtin.firstCells i.size xs.length (.slice base xs.length cap)).run P w.drew = .ok olds.toArray w.drew) (hol : olds.length = xs.length * e.size)
    (hg : cap < xs.length + ys.length) (hf : (xs.length + ys.length) * i.bytes ≤ 2 ^ 46) :
    ∃ u w1, (Builtin.append_ #[T, T2] ty #[.slice base xs.length cap, vy]).run P w = .ok u w1 ∧ Inv w0 M0 (g.add gr w.heap.size) st a w1 ∧ OwnRow (g.add gr w.heap.size) w1 gr none e false (xs ++ ys) u := by
  have hneed := need_fits hb hf
  have h63 : ((xs.length + ys.length : Nat) : Int) ≤ 9223372036854775807 := by
    have : (2 : Nat) ^ 46 = 70368744177664 := rfl
    omega
  have hrun := run_append_grow_src (P := P) w T T2 ty E i z hT hi hz base xs.length cap olds hold vy ys.length news (hsz ▸ hsrc) hg h63 (nextcap_fits hg hf)
  have hcap := grownCap_le (w := w) (need := xs.length + ys.length) (old := cap) (E := E)
  have hk : Below w.heap.size w (w.drew.alloc (.cells ((olds ++ news).toArray ++ Builtin.zeroCells z.cells (grownCap w (xs.length + ys.length) cap E - (xs.length + ys.length))) E)) :=
    ((Below.refl _ _).drew).alloc (Nat.le_refl _) _
  have inv1 := inv.newOwn hk (by simp) gr hgr
  have hus : ((olds ++ news).toArray ++ Builtin.zeroCells z.cells (grownCap w (xs.length + ys.length) cap E - (xs.length + ys.length))).size = grownCap w (xs.length + ys.length) cap E * e.size := by
    simp only [Array.size_append, List.size_toArray, List.length_append, size_zeroCells, hzs, hol, hsrc.newsLen, ← hsz, ← Nat.add_mul]
    congr 1
    omega
  refine ⟨_, _, hrun, inv1, .inr ⟨rfl, w.heap.size, 0, _, _, by simp [G.add], by simp; rfl, by simp; exact hcap, ownB_alloc (w := w.drew), ?_, fun _ => rfl, fun l hl => by simp at hl, ?_⟩⟩
  · rw [hus]; omega
  · have hmem : ∀ j u, (olds ++ news)[j]? = some u → memOf (w.drew.alloc (.cells ((olds ++ news).toArray ++ Builtin.zeroCells z.cells (grownCap w (xs.length + ys.length) cap E - (xs.length + ys.length))) E)) w.heap.size (0 + j) = some u := by
      intro j u hu
      have := memOf_alloc (w := w.drew) (us := (olds ++ news).toArray ++ Builtin.zeroCells z.cells (grownCap w (xs.length + ys.length) cap E - (xs.length + ys.length))) (T := E) (j := j)
      rw [Nat.zero_add]
      refine this.trans ?_
      have hl : j < (olds ++ news).length := by
        rcases Nat.lt_or_ge j (olds ++ news).length with h | h
        · exact h
        · simp [List.getElem?_eq_none h] at hu
      rw [Array.getElem?_append_left (by simpa using hl)]
      simpa using hu
    refine rows_append (ho _ _ _ fun j u hu => hmem j u ?_) (hn _ _ _ fun j u hu => ?_)
    · rw [List.getElem?_append_left]
      · exact hu
      · rcases Nat.lt_or_ge j olds.length with h | h
        · exact h
        · simp [List.getElem?_eq_none h] at hu
    · have := hmem (olds.length + j) u (by rw [List.getElem?_append_right (by omega), show olds.length + j - olds.length = j by omega]; exact hu)
      rwa [← Nat.add_assoc, hol] at this

theorem isNilL_iff {α : Type} {l : List α} : isNilL l = true ↔ l = [] := by cases l <;> simp [isNilL]

theorem Inv.freshen (inv : Inv w0 M0 g st a w) (r : Nat) : Inv w0 M0 (g.relinq w r) (C.freshen r st) a w := inv.relinq r

theorem fits_le {n b : Nat} (h : fits n b = true) : n * b ≤ 2 ^ 46 := by have := of_decide_eq_true h; simpa [LIM] using this

theorem bytesOf_eq {P : Program} {E : TypeId} {i : TypeInfo} (hi : P.info? E = some i) : P.bytesOf E = i.bytes := by simp [Program.bytesOf, hi]

theorem relinq_le (inv : Inv w0 M0 g st a w) (r : Nat) : g.M.le (g.relinq w r).M := fun b o u hu => by
  have := (inv.ok.mem b o u hu).2.2 r
  simp [G.relinq, this, hu]

theorem sees_le {e : CL} {M M' : Mem} {ys : List e.den} {news : List Value} (hM : M.le M') (h : ∀ (N : Mem) (b' o' : Nat), (∀ j u, news[j]? = some u → N b' (o' + j) = some u) → ∀ i z, ys[i]? = some z → e.sees N M b' (o' + i * e.size) z) :
    ∀ (N : Mem) (b' o' : Nat), (∀ j u, news[j]? = some u → N b' (o' + j) = some u) → ∀ i z, ys[i]? = some z → e.sees N M' b' (o' + i * e.size) z :=
  fun N b' o' hN i z hz => CL.sees_mono e hM (Mem.le_refl _) (h N b' o' hN i z hz)

/-- append at a nil slice. -/
theorem append_nil {P : Program} {T T2 E ty : TypeId} {e : CL} (hT : elemOfT P T = some (E, e)) (inv : Inv w0 M0 g st a w) {gr : Nat} (hgr : g.ω gr = none) {ys : List e.den} {vy : Value} {news : List Value}
    (hsrc : Src P e.size T2 vy ys.length news w) (hn : ∀ (N : Mem) (b' o' : Nat), (∀ j u, news[j]? = some u → N b' (o' + j) = some u) → ∀ i z, ys[i]? = some z → e.sees N g.M b' (o' + i * e.size) z)
    (hf : ys.length * P.bytesOf E ≤ 2 ^ 46) :
    ∃ u w1 g1, (Builtin.append_ #[T, T2] ty #[.slice none 0 0, vy]).run P w = .ok u w1 ∧ Inv w0 M0 g1 st a w1 ∧ RelC g1 w1 ⟨.own gr none, .sl e (isNilL ys) ys⟩ u := by
  obtain ⟨i, z, hd, hi, hz, hsz, hzs, hb, _⟩ := elemOfT_some hT
  rw [bytesOf_eq hi] at hf
  cases ys with
  | nil =>
    have : news = [] := by have := hsrc.newsLen; simpa using this
    subst this
    refine ⟨_, w, g, ?_, inv, .inl ⟨rfl, rfl, rfl⟩⟩
    have hs0 : (Builtin.firstCells i.size 0 vy).run P w = .ok #[] w := by have := hsrc.cells; simpa [hsz] using this
    rcases hsrc.kind with ⟨e', hk⟩ | hk <;> simp [Builtin.append_, run_underlying hd, run_underlying hk, sizeOf, typeInfo, hi, hsrc.len, hs0]
  | cons y ys =>
    obtain ⟨u, w1, h1, h2, h3⟩ := append_grow (ty := ty) hd hi hz hsz hzs hb inv hgr (xs := []) (olds := []) hsrc hn (fun _ _ _ _ i z hz => by simp at hz) (base := none) (cap := 0)
      (run_firstCells_none w.drew _ _ _ _) (by simp) (by simp) (by simpa using hf)
    exact ⟨u, w1, _, h1, h2, h3⟩
end
end Go.Proofs.Ythiaaaedfidnjaa.Am

namespace Go.Proofs.Ythiaaaedfidnjaa.Am
open Go Go.RowKit
section
variable {w0 : Base} {M0 : Mem} {g : G} {st : St} {a : Act} {w : World}

/-- A store into a block that nothing tells of. -/
theorem Inv.setFree (inv : Inv w0 M0 g st a w) {b o : Nat} {vs : List Value} (hω : ∀ r, g.ω r ≠ some b) (hM : ∀ o, g.M b o = none) (hβ : b ∉ g.β) (hb : w0.New b) : Inv w0 M0 g st a (w.setCells b o vs) := by
  refine inv.world (fun b' o' u hu => ?_) (fun k hk => ?_) (fun r k hk => ?_) (by rw [setCells_size]; exact Nat.le_refl _) (setCells_below vs o inv.ok.frame hb)
  · exact setCells_heap_other vs w b o b' (fun e => by subst e; rw [hM] at hu; simp at hu)
  · exact setCells_heap_other vs w b o k (fun e => hβ (e ▸ hk))
  · exact setCells_heap_other vs w b o k (fun e => hω r (e ▸ hk))

/-- append into the room that an array of the frame's own has. -/
theorem append_room {P : Program} {T T2 E ty : TypeId} {e : CL} {i : TypeInfo} (hT : P.underlying T = some (.slice E)) (hi : P.info? E = some i) (hsz : e.size = i.size)
    (inv : Inv w0 M0 g st a w) {gr b n cap : Nat} (hgr : g.ω gr = none) (hω : ∀ r, g.ω r ≠ some b) (hM : ∀ o, g.M b o = none) (hβ : b ∉ g.β) (hb : w0.New b ∧ b < w.heap.size)
    {xs ys : List e.den} {vy : Value} {news : List Value} (hsrc : Src P e.size T2 vy ys.length news w)
    (hn : ∀ (N : Mem) (b' o' : Nat), (∀ j u, news[j]? = some u → N b' (o' + j) = some u) → ∀ i z, ys[i]? = some z → e.sees N g.M b' (o' + i * e.size) z)
    (hx : ∀ i y, xs[i]? = some y → e.sees (memOf w) g.M b (0 + i * e.size) y) (hO : OwnB w b n) (hcap : cap * e.size ≤ n) (hroom : xs.length + ys.length ≤ cap) :
    ∃ u w1, (Builtin.append_ #[T, T2] ty #[.slice (some ⟨b, 0, none⟩) xs.length cap, vy]).run P w = .ok u w1 ∧ Inv w0 M0 (g.add gr b) st a w1 ∧ OwnRow (g.add gr b) w1 gr none e false (xs ++ ys) u := by
  have hnl := hsrc.newsLen
  have hfit : xs.length * e.size + news.length ≤ n := by
    rw [hnl, ← Nat.add_mul]
    exact Nat.le_trans (Nat.mul_le_mul_right _ hroom) hcap
  have hrun := run_append_room_src (P := P) w T T2 ty E i hT hi b 0 xs.length cap vy ys.length news (hsz ▸ hsrc) hroom
    (fun j hj => by rw [← hsz]; exact hO.cell (by omega)) (fun j hj => by rw [← hsz]; exact hO.frozen (by omega))
  rw [← hsz] at hrun
  have inv1 := (inv.setFree (o := 0 + xs.length * e.size) (vs := news) hω hM hβ hb.1).add gr b hgr hβ hM hω (by rw [setCells_size]; exact hb)
  refine ⟨_, _, hrun, inv1, .inr ⟨rfl, b, 0, cap, n, by simp [G.add], by simp, by simpa using hroom, hO.setCells _ _ _, by omega, fun _ => rfl, fun l hl => by simp at hl, ?_⟩⟩
  refine rows_append (fun i y hy => ?_) (hn _ _ _ fun j u hu => ?_)
  · have hlt : i < xs.length := by
      rcases Nat.lt_or_ge i xs.length with h | h
      · exact h
      · simp [List.getElem?_eq_none h] at hy
    have h2 := Nat.mul_le_mul_right e.size (show i + 1 ≤ xs.length from hlt)
    rw [Nat.add_mul] at h2
    exact sees_apart (hx i y hy) fun t ht => by omega
  · exact memOf_set_in hO (by omega) hu

theorem appendK_sound {P : Program} {d : Nat} {T T2 ty : TypeId} {x y : C} {k : KO} {r : Res} {vx vy : Value} (inv : Inv w0 M0 g st a w) (hx : RelC g w x vx) (hy : RelC g w y vy) (h : appendK P d T T2 x y st k = some r) :
    OpGood P w0 M0 a w k r (Builtin.append_ #[T, T2] ty #[vx, vy]) := by
  unfold appendK at h
  split at h
  · simp at h
  · rename_i E e hE
    split at h
    · simp at h
    · rename_i ys hys
      obtain ⟨news, hsrc, hn, _⟩ := srcOf_sound inv hy hys
      obtain ⟨i, z, hd, hi, hz, hsz, hzs, hb, _⟩ := elemOfT_some hE
      split at h
      · -- nil
        rename_i t
        have hv : vx = .slice none 0 0 := by cases t <;> exact hx
        subst hv
        rcases br_some h with ⟨hf, h⟩ | ⟨_, h⟩
        · have inv1 := inv.freshen (grp d 0)
          obtain ⟨u, w1, g1, h1, h2, h3⟩ := append_nil (ty := ty) hE inv1 (gr := grp d 0) (by simp [G.relinq]) hsrc (sees_le (relinq_le inv _) hn) (fits_le hf)
          exact ⟨_, _, g1, u, w1, h, h2, h3, h1⟩
        · simp at h
      · -- the frame's own
        rename_i gr e' nl xs
        split at h
        · rename_i hee
          have := CL.beq_eq hee
          subst this
          rcases br_some h with ⟨hf, h⟩ | ⟨_, h⟩
          · have hf' := fits_le hf
            have inv0 := inv.kill gr
            have inv1 := inv0.freshen (grp d 0)
            have hg1 : ((g.drop gr).relinq w (grp d 0)).ω (grp d 0) = none := by simp [G.relinq]
            have hle : g.M.le ((g.drop gr).relinq w (grp d 0)).M := fun b o u hu => relinq_le inv0 _ b o u hu
            rcases hx with ⟨rfl, rfl, rfl⟩ | ⟨rfl, b, o, cap, n, h1, rfl, h3, h4, h5, h6, h7, h8⟩
            · rw [show castL (CL.beq_eq hee) ([] : List e'.den) = [] from rfl] at h
              obtain ⟨u, w1, g1, q1, q2, q3⟩ := append_nil (ty := ty) hE inv1 (gr := grp d 0) hg1 hsrc (sees_le hle hn) (by simpa using hf')
              exact ⟨_, _, g1, u, w1, (h : k (.s (.c ⟨.own (grp d 0) none, .sl e' (isNilL ys) ys⟩)) _ = some r), q2, q3, q1⟩
            · obtain rfl := h6 rfl
              have hnb : ∀ r, (g.drop gr).ω r ≠ some b := fun r hr => by
                simp only [G.drop] at hr
                split at hr
                · simp at hr
                · rename_i hne
                  exact hne (inv.ok.odist _ _ _ hr h1)
              have hω : ∀ r, ((g.drop gr).relinq w (grp d 0)).ω r ≠ some b := fun r hr => by
                simp only [G.relinq] at hr
                split at hr
                · simp at hr
                · exact hnb r hr
              have hM : ∀ o, ((g.drop gr).relinq w (grp d 0)).M b o = none := fun o => by
                have h9 : g.M b o = none := by
                  cases hm : g.M b o with
                  | none => rfl
                  | some u => exact ((inv.ok.mem b o u hm).2.2 gr h1).elim
                simp only [G.relinq]
                rw [if_neg (hnb _)]
                exact h9
              have hbb := inv.ok.newo _ _ h1
              have hbβ := inv.ok.obox _ _ h1
              by_cases hroom : xs.length + ys.length ≤ cap
              · obtain ⟨u, w1, q1, q2, q3⟩ := append_room (ty := ty) hd hi hsz inv1 (gr := grp d 0) hg1 hω hM hbβ hbb hsrc (sees_le hle hn) (fun i y hy => CL.sees_mono e' hle (Mem.le_refl _) (h8 i y hy)) h4 (by omega) hroom
                exact ⟨_, _, _, u, w1, h, q2, q3, q1⟩
              · obtain ⟨olds, a1, a2, a3, a4⟩ := row_list e' h8
                obtain ⟨u, w1, q1, q2, q3⟩ := append_grow (ty := ty) hd hi hz hsz hzs hb inv1 (gr := grp d 0) hg1 hsrc (sees_le hle hn) (sees_le hle a4) (base := some ⟨b, 0, none⟩) (cap := cap)
                  (run_firstCells_some w.drew _ _ _ _ _ olds (by rw [← hsz]; exact a1) (fun j u hu => by rw [addr_add]; exact a2 j u hu)) a1 (by omega) (by rw [bytesOf_eq hi] at hf'; exact hf')
                exact ⟨_, _, _, u, w1, h, q2, q3, q1⟩
          · simp at h
        · simp at h
      · -- a slice without room
        rename_i t e' xs
        split at h
        · rename_i hee
          have := CL.beq_eq hee
          subst this
          rcases br_some h with ⟨hf, h⟩ | ⟨_, h⟩
          · have hf' := fits_le hf
            have key : ∃ ga, Inv w0 M0 ga (st.letGo t) a w ∧ RelC ga w ⟨.ro, .slf e' xs⟩ vx ∧ g.M.le ga.M := by
              cases t with
              | ro => exact ⟨g, inv, hx, Mem.le_refl _⟩
              | own gr s =>
                refine ⟨_, inv.relinq gr, ?_, relinq_le inv gr⟩
                have := hx.relinq gr fun b o u hu => (inv.ok.mem b o u hu).2.2 gr
                simpa [C.relinq] using this
            obtain ⟨ga, inva, hxa, hle⟩ := key
            have invb := inva.freshen (grp d 0)
            have hleb := Mem.le_trans hle (relinq_le inva (grp d 0))
            have hxb : RelC (ga.relinq w (grp d 0)) w ⟨.ro, .slf e' xs⟩ vx := RelC.roTo (relinq_le inva (grp d 0)) rfl hxa
            cases ys with
            | nil =>
              have : news = [] := by have := hsrc.newsLen; simpa using this
              subst this
              have invc := invb.relinq (grp d 0)
              have hxc := RelC.roTo (g' := (ga.relinq w (grp d 0)).relinq w (grp d 0)) (w' := w) (relinq_le invb (grp d 0)) rfl hxb
              obtain ⟨b, o, rfl, h2⟩ := hxc
              refine ⟨_, _, _, _, w, h, invc, ?_, run_append_nothing w T T2 ty E i hd hi _ xs.length xs.length (Nat.le_refl _) vy (hsz ▸ hsrc)⟩
              refine .inr ⟨rfl, b, o, xs.length, by simp [castL], by simp [castL], fun j y hj => h2 j y (by simpa [castL] using hj)⟩
            | cons y0 ys =>
              obtain ⟨b, o, rfl, h2⟩ := hxb
              have h2' : ∀ j y, xs[j]? = some y → e'.sees (memOf w) (ga.relinq w (grp d 0)).M b (o + j * e'.size) y := fun j y hj =>
                CL.sees_mono e' (Mem.le_refl _) (fun b o u hu => (invb.ok.mem b o u hu).1) (h2 j y hj)
              obtain ⟨olds, a1, a2, a3, a4⟩ := row_list e' h2'
              obtain ⟨u, w1, q1, q2, q3⟩ := append_grow (ty := ty) hd hi hz hsz hzs hb invb (gr := grp d 0) (by simp [G.relinq]) hsrc (sees_le hleb hn) a4 (base := some ⟨b, o, none⟩) (cap := xs.length)
                (run_firstCells_some w.drew _ _ _ _ _ olds (by rw [← hsz]; exact a1) (fun j u hu => by rw [addr_add]; exact a2 j u hu)) a1 (by simp) (by rw [bytesOf_eq hi] at hf'; exact hf')
              have invd := q2.relinq (grp d 0)
              have q4 : RelC _ w1 ⟨.own (grp d 0) none, .sl e' false (xs ++ y0 :: ys)⟩ u := q3
              have q5 := q4.relinq (grp d 0) fun b o u hu => (q2.ok.mem b o u hu).2.2 _
              have q6 : RelC (((ga.relinq w (grp d 0)).add (grp d 0) w.heap.size).relinq w1 (grp d 0)) w1 ⟨.ro, .sl e' false (xs ++ y0 :: ys)⟩ u := by simpa [C.relinq] using q5
              exact ⟨_, _, _, u, w1, h, invd, q6, q1⟩
          · simp at h
        · simp at h
      · simp at h
end
end Go.Proofs.Ythiaaaedfidnjaa.Am

namespace Go.Proofs.Ythiaaaedfidnjaa.Am
open Go Go.RowKit
section
variable {w0 : Base} {M0 : Mem} {g : G} {st : St} {a : Act} {w : World}

theorem inR_iff {i : Int} {n : Nat} (h : inR i n = true) : 0 ≤ i ∧ i < (n : Int) := by simpa [inR] using h
theorem leR_iff {i : Int} {n : Nat} (h : leR i n = true) : 0 ≤ i ∧ i ≤ (n : Int) := by simpa [leR] using h

/-! ## addresses -/
theorem indexAddrK_sound {P : Program} {T : TypeId} {c : C} {i : Int} {ik : IntKind} {k : KO} {r : Res} {x : Value} (inv : Inv w0 M0 g st a w) (hx : RelC g w c x) (h : indexAddrK P T c i st k = some r) :
    OpGood P w0 M0 a w k r (Instr.indexAt T x (.int ik i)) := by
  unfold indexAddrK at h
  split at h
  · simp at h
  · rename_i E e hE
    obtain ⟨inf, z, hd, hi, hz, hsz, hzs, hb, _⟩ := elemOfT_some hE
    have run : ∀ {b o len cap : Nat}, 0 ≤ i → i < (len : Int) → (Instr.indexAt T (.slice (some ⟨b, o, none⟩) len cap) (.int ik i)).run P w = .ok (.pointer (some ⟨b, o + i.toNat * inf.size, none⟩)) w := by
      intro b o len cap h0 h1
      simp [Instr.indexAt, asIntOf, run_underlying hd, h0, h1, sizeOf, typeInfo, hi, addr_add]
    split at h
    · rename_i t e' nl xs
      have hee := (bif_some h).1
      replace h := (bif_some h).2
      have := CL.beq_eq hee
      subst this
      rcases br_some h with ⟨hr, h⟩ | ⟨_, h⟩
      · obtain ⟨h0, h1⟩ := inR_iff hr
        have hlt : i.toNat < xs.length := by omega
        cases t with
        | ro =>
          rcases hx with ⟨_, rfl, _⟩ | ⟨_, b, o, cap, rfl, _, h3⟩
          · simp at hlt
          · refine ⟨_, st, g, _, w, h, inv, ?_, run h0 h1⟩
            exact ⟨_, b, o + i.toNat * inf.size, List.getElem?_eq_getElem hlt, rfl, by rw [← hsz]; exact h3 _ _ (List.getElem?_eq_getElem hlt)⟩
        | own gr s =>
          rcases hx with ⟨_, rfl, _⟩ | ⟨_, b, o, cap, n, q1, rfl, q3, q4, q5, q6, q7, q8⟩
          · simp at hlt
          · refine ⟨_, st, g, _, w, h, inv, ?_, run h0 h1⟩
            have h2 := Nat.mul_le_mul_right e'.size (show i.toNat + 1 ≤ cap by omega)
            rw [Nat.add_mul] at h2
            exact ⟨_, b, o + i.toNat * inf.size, n, List.getElem?_eq_getElem hlt, q1, rfl, q4, by rw [← hsz]; omega, fun hs => by rw [q6 hs, hsz]; omega, by rw [← hsz]; exact q8 _ _ (List.getElem?_eq_getElem hlt)⟩
      · simp at h
    · rename_i t e' xs
      have hee := (bif_some h).1
      replace h := (bif_some h).2
      have := CL.beq_eq hee
      subst this
      rcases br_some h with ⟨hr, h⟩ | ⟨_, h⟩
      · obtain ⟨h0, h1⟩ := inR_iff hr
        have hlt : i.toNat < xs.length := by omega
        cases t with
        | ro =>
          obtain ⟨b, o, rfl, h3⟩ := hx
          refine ⟨_, st, g, _, w, h, inv, ?_, run h0 h1⟩
          exact ⟨_, b, o + i.toNat * inf.size, List.getElem?_eq_getElem hlt, rfl, by rw [← hsz]; exact h3 _ _ (List.getElem?_eq_getElem hlt)⟩
        | own gr s =>
          obtain ⟨b, o, n, q1, rfl, q3, q4, q5⟩ := hx
          refine ⟨_, st, g, _, w, h, inv, ?_, run h0 h1⟩
          have h2 := Nat.mul_le_mul_right e'.size (show i.toNat + 1 ≤ xs.length by omega)
          rw [Nat.add_mul] at h2
          have : ∃ s', pieceTag (.own gr s) 0 = .own gr (some s') := by cases s <;> exact ⟨_, rfl⟩
          obtain ⟨s', hs'⟩ := this
          rw [hs']
          exact ⟨_, b, o + i.toNat * inf.size, n, List.getElem?_eq_getElem hlt, q1, rfl, q3, by rw [← hsz]; omega, fun hs => by simp at hs, by rw [← hsz]; exact q5 _ _ (List.getElem?_eq_getElem hlt)⟩
      · simp at h
    · simp at h

theorem fieldOff_some {P : Program} {T : TypeId} {f o : Nat} {t : TypeId} (h : fieldOff P T f = some (o, t)) :
    ∃ fs x i, P.underlying T = some (.struct fs) ∧ fs[f]? = some x ∧ x.offset = o ∧ x.type = t ∧ P.info? t = some i ∧ i.size ≠ 0 := by
  unfold fieldOff at h
  split at h
  · rename_i fs hd
    split at h
    · rename_i x hx
      have h1 := (bifn_some h).1
      have h2 := Option.some.inj (bifn_some h).2
      simp at h2
      obtain ⟨rfl, rfl⟩ := h2
      cases hi : P.info? x.type with
      | none => simp [Program.cellsOf, hi] at h1
      | some i => exact ⟨fs, x, i, hd, by rw [← hx]; simp, rfl, rfl, rfl, by intro h0; simp [Program.cellsOf, hi, h0] at h1⟩
    · simp at h
  · simp at h

theorem fieldAddrK_sound {P : Program} {T : TypeId} {f : Nat} {c : C} {k : KO} {r : Res} {x : Value} (inv : Inv w0 M0 g st a w) (hx : RelC g w c x) (h : fieldAddrK P T f c st k = some r) :
    OpGood P w0 M0 a w k r (Instr.fieldAt T x f) := by
  unfold fieldAddrK at h
  split at h
  · simp at h
  · rename_i o' t hoff
    obtain ⟨fs, fd, i, hd, hf, rfl, rfl, hi, hne⟩ := fieldOff_some hoff
    have run : ∀ {b o : Nat}, (Instr.fieldAt T (.pointer (some ⟨b, o, none⟩)) f).run P w = .ok (.pointer (some ⟨b, o + fd.offset, none⟩)) w := by
      intro b o
      simp [Instr.fieldAt, run_underlying hd, hf, Instr.sureAddr, fieldPlace, sizeOf, typeInfo, hi, hne, addr_add]
    split at h
    · rename_i t b o
      have hx' : ∃ blk, g.β[b]? = some blk ∧ x = .pointer (some ⟨blk, o, none⟩) := by cases t <;> exact hx
      obtain ⟨blk, h1, rfl⟩ := hx'
      refine ⟨_, st, g, _, w, h, inv, ?_, run⟩
      cases t <;> exact ⟨blk, h1, rfl⟩
    · rename_i t e xs j o
      cases t with
      | ro =>
        obtain ⟨y, b, o', h1, rfl, h3⟩ := hx
        exact ⟨_, st, g, _, w, h, inv, ⟨y, b, o', h1, by rw [Nat.add_assoc], h3⟩, run⟩
      | own gr s =>
        obtain ⟨y, b, o', n, h1, h2, rfl, h4, h5, h6, h7⟩ := hx
        exact ⟨_, st, g, _, w, h, inv, ⟨y, b, o', n, h1, h2, by rw [Nat.add_assoc], h4, h5, h6, h7⟩, run⟩
    · simp at h

theorem partOf_sound {P : Program} {T : TypeId} {cs : List C} {us : Array Value} {o : Nat} {s : S1} (h : partOf P T cs o = some s) (hc : All2 (RelC g w) cs us.toList) :
    ∃ u, (part T us o).run P w = .ok u w ∧ RelS1 g w s u := by
  unfold partOf at h
  split at h
  · simp at h
  · rename_i d hd
    obtain ⟨hl, h⟩ := bif_some h
    have h1 := (hc.drop o).take (P.cellsOf T)
    cases hb : isAggB P T with
    | true =>
      rw [hb] at h
      simp [ofCells] at h
      subst h
      exact ⟨_, run_part hd (by rw [hb]; rfl), ⟨_, rfl, by simpa using h1⟩⟩
    | false =>
      rw [hb] at h
      unfold ofCells at h
      split at h
      · simp_all
      · rename_i x _ heq
        simp at h
        subst h
        rw [heq] at h1
        match hm : (us.toList.drop o).take (P.cellsOf T), h1 with
        | [u], h1 => exact ⟨u, run_part hd (by rw [hb, hm]; rfl), h1.1⟩
      · simp at h

theorem fieldK_sound {P : Program} {T : TypeId} {f : Nat} {s : S1} {k : KO} {r : Res} {x : Value} (inv : Inv w0 M0 g st a w) (hx : RelS1 g w s x) (h : fieldK P T f s st k = some r) :
    OpGood P w0 M0 a w k r (Instr.field T x f) := by
  unfold fieldK at h
  split at h
  · simp at h
  · rename_i o t hoff
    obtain ⟨fs, fd, i, hd, hf, rfl, rfl, hi, hne⟩ := fieldOff_some hoff
    split at h
    · rename_i cs
      split at h
      · rename_i s' hs
        obtain ⟨us, rfl, hx⟩ := hx
        obtain ⟨u, hu, hr⟩ := partOf_sound hs hx
        refine ⟨.s s', st, g, u, w, h, inv, hr, ?_⟩
        simp [Instr.field, run_underlying hd, hf, asAgg, hu]
      · simp at h
    · simp at h

theorem lenK_sound {P : Program} {T ty : TypeId} {c : C} {k : KO} {r : Res} {x : Value} (inv : Inv w0 M0 g st a w) (hx : RelC g w c x) (h : lenK P T c st k = some r) :
    OpGood P w0 M0 a w k r (Builtin.len_ #[T] ty #[x]) := by
  obtain ⟨t, av⟩ := c
  unfold lenK at h
  split at h
  · rename_i E hd
    have run : ∀ {ad : Option Addr} {n cap : Nat}, (Builtin.len_ #[T] ty #[.slice ad n cap]).run P w = .ok (.int .i64 n) w := by
      intro ad n cap
      simp [Builtin.len_, run_underlying hd, goInt]
    split at h
    · rename_i e nl xs hav
      simp at hav; subst hav
      have : ∃ ad cap, x = .slice ad xs.length cap := by
        cases t with
        | ro =>
          rcases hx with ⟨_, rfl, rfl⟩ | ⟨_, b, o, cap, rfl, _⟩
          · exact ⟨none, 0, rfl⟩
          · exact ⟨_, _, rfl⟩
        | own gr s =>
          rcases hx with ⟨_, rfl, rfl⟩ | ⟨_, b, o, cap, n, _, rfl, _⟩
          · exact ⟨none, 0, rfl⟩
          · exact ⟨_, _, rfl⟩
      obtain ⟨ad, cap, rfl⟩ := this
      exact ⟨_, st, g, _, w, h, inv, vS_rel rfl, run⟩
    · rename_i e xs hav
      simp at hav; subst hav
      have : ∃ ad cap, x = .slice ad xs.length cap := by
        cases t with
        | ro => obtain ⟨b, o, rfl, _⟩ := hx; exact ⟨_, _, rfl⟩
        | own gr s => obtain ⟨b, o, n, _, rfl, _⟩ := hx; exact ⟨_, _, rfl⟩
      obtain ⟨ad, cap, rfl⟩ := this
      exact ⟨_, st, g, _, w, h, inv, vS_rel rfl, run⟩
    · rename_i hav
      simp at hav; subst hav
      have : x = .slice none 0 0 := by cases t <;> exact hx
      subst this
      exact ⟨_, st, g, _, w, h, inv, vS_rel rfl, run⟩
    · simp at h
  · rename_i hd
    split at h
    · rename_i s hav
      simp at hav; subst hav
      have : x = .string s := by cases t <;> exact hx.1
      subst this
      exact ⟨_, st, g, _, w, h, inv, vS_rel rfl, by simp [Builtin.len_, run_underlying hd, goInt]⟩
    · simp at h
  · simp at h

/-! ## pieces -/
theorem indexStr_sound {P : Program} {T : TypeId} {s : ByteArray} {i : Int} {ik : IntKind} {k : KO} {r : Res} (hT : P.underlying T = some .string) (inv : Inv w0 M0 g st a w) (h : indexStr s i st k = some r) :
    OpGood P w0 M0 a w k r (Instr.index T (.string s) (.int ik i)) := by
  unfold indexStr at h
  rcases br_some h with ⟨hr, h⟩ | ⟨_, h⟩
  · obtain ⟨h0, h1⟩ := inR_iff hr
    have hlt : i.toNat < s.size := by omega
    refine ⟨_, st, g, _, w, h, inv, vS_rel rfl, ?_⟩
    have e1 : s[i.toNat]? = some s[i.toNat] := getElem?_pos s i.toNat hlt
    have e2 : (ofBA s).getD i.toNat 0 = ((s[i.toNat]).toNat : Int) := by
      unfold ofBA
      rw [List.getD_eq_getElem?_getD, List.getElem?_map]
      have : s.data.toList[i.toNat]? = some s[i.toNat] := by
        rw [List.getElem?_eq_getElem (by simpa using hlt)]
        rfl
      rw [this]; rfl
    rw [e2]
    simp [Instr.index, asIntOf, run_underlying hT, h0, e1]
  · simp at h

theorem elem_eq {P : Program} {T E : TypeId} (hd : P.underlying T = some (.slice E)) : P.underlying T = some (.slice (P.elem T)) := by
  simp [Program.elem, hd]
theorem elem_is {P : Program} {T E : TypeId} (hd : P.underlying T = some (.slice E)) : P.elem T = E := by simp [Program.elem, hd]

theorem piece_rel {t : Tag} {e : CL} {nl : Bool} {xs ys : List e.den} {l h : Nat} {ad : Option Addr} {n cap : Nat} (hx : RelC g w ⟨t, .sl e nl xs⟩ (.slice ad n cap)) (hl : l ≤ h) (hh : h ≤ xs.length)
    (hlen : ys.length = h - l) (hys : ∀ i y, ys[i]? = some y → xs[l + i]? = some y) : n = xs.length ∧ xs.length ≤ cap ∧ RelC g w ⟨pieceTag t l, .sl e nl ys⟩ (sliced ad l h cap e.size) := by
  have at_ : ∀ {N M : Mem} {b o i : Nat} {y : e.den}, (∀ i y, xs[i]? = some y → e.sees N M b (o + i * e.size) y) → ys[i]? = some y → e.sees N M b (o + l * e.size + i * e.size) y := by
    intro N M b o i y hs hy
    have := hs _ _ (hys i y hy)
    rwa [Nat.add_assoc, ← Nat.add_mul]
  have none_ : ∀ {i : Nat} {y : e.den}, cap = l → xs.length ≤ cap → ys[i]? = some y → False := by
    intro i y h1 h2 h3
    have : ys = [] := List.eq_nil_of_length_eq_zero (by omega)
    rw [this] at h3; simp at h3
  cases t with
  | ro =>
    rcases hx with ⟨h0, rfl, hx⟩ | ⟨h0, b, o, c, hx, h2, h3⟩
    · simp at hx
      obtain ⟨rfl, rfl, rfl⟩ := hx
      simp at hh
      subst hh
      have : ys = [] := List.eq_nil_of_length_eq_zero (by omega)
      subst this
      obtain rfl : l = 0 := by omega
      exact ⟨rfl, Nat.le_refl _, .inl ⟨h0, rfl, by simp [sliced]⟩⟩
    · simp at hx
      obtain ⟨rfl, rfl, rfl⟩ := hx
      refine ⟨rfl, h2, .inr ⟨h0, b, if cap = l then o else o + l * e.size, cap - l, ?_, by omega, fun i y hy => ?_⟩⟩
      · simp only [sliced, Option.map_some, addr_add, hlen]
        split <;> rfl
      · split
        · rename_i hc
          exact (none_ hc h2 hy).elim
        · exact at_ h3 hy
  | own gr s =>
    rcases hx with ⟨h0, rfl, hx⟩ | ⟨h0, b, o, c, nn, q1, hx, q3, q4, q5, q6, q7, q8⟩
    · simp at hx
      obtain ⟨rfl, rfl, rfl⟩ := hx
      simp at hh
      subst hh
      have : ys = [] := List.eq_nil_of_length_eq_zero (by omega)
      subst this
      obtain rfl : l = 0 := by omega
      refine ⟨rfl, Nat.le_refl _, ?_⟩
      cases s <;> exact .inl ⟨h0, rfl, by simp [sliced]⟩
    · simp at hx
      obtain ⟨rfl, rfl, rfl⟩ := hx
      have hfit : (o + l * e.size) + (cap - l) * e.size ≤ nn := by
        rw [Nat.add_assoc, ← Nat.add_mul, show l + (cap - l) = cap by omega]
        exact q5
      have hval : sliced (some ⟨b, o, none⟩) l h cap e.size = .slice (some ⟨b, if cap = l then o else o + l * e.size, none⟩) ys.length (cap - l) := by
        simp only [sliced, Option.map_some, addr_add, hlen]
        split <;> rfl
      have hsee : ∀ i y, ys[i]? = some y → e.sees (memOf w) g.M b ((if cap = l then o else o + l * e.size) + i * e.size) y := fun i y hy => by
        split
        · rename_i hc
          exact (none_ hc q3 hy).elim
        · exact at_ q8 hy
      have hne : ys ≠ [] → xs ≠ [] ∧ cap ≠ l := fun hn => by
        have : 0 < ys.length := List.length_pos_iff.mpr hn
        refine ⟨fun e => ?_, by omega⟩
        subst e; simp at hh; omega
      refine ⟨rfl, q3, ?_⟩
      have hfit2 : (if cap = l then o else o + l * e.size) + (cap - l) * e.size ≤ nn := by
        split
        · rename_i hc
          subst hc; simp; omega
        · exact hfit
      cases s with
      | none =>
        obtain rfl := q6 rfl
        refine .inr ⟨h0, b, _, cap - l, nn, q1, hval, by omega, q4, hfit2, fun hs => by simp at hs, fun l' hl' hn => ?_, hsee⟩
        simp at hl'
        subst hl'
        rw [if_neg (hne hn).2, Nat.zero_add]
      | some o1 =>
        refine .inr ⟨h0, b, _, cap - l, nn, q1, hval, by omega, q4, hfit2, fun hs => by simp at hs, fun l' hl' hn => ?_, hsee⟩
        simp at hl'
        subst hl'
        rw [if_neg (hne hn).2, q7 o1 rfl (hne hn).1, ← Nat.add_mul, Nat.add_comm]

theorem sl_value {t : Tag} {e : CL} {nl : Bool} {xs : List e.den} {x : Value} (hx : RelC g w ⟨t, .sl e nl xs⟩ x) : ∃ ad cap, x = .slice ad xs.length cap ∧ xs.length ≤ cap := by
  cases t with
  | ro =>
    rcases hx with ⟨_, rfl, rfl⟩ | ⟨_, b, o, cap, rfl, h, _⟩
    · exact ⟨none, 0, rfl, Nat.le_refl _⟩
    · exact ⟨_, _, rfl, h⟩
  | own gr s =>
    rcases hx with ⟨_, rfl, rfl⟩ | ⟨_, b, o, cap, n, _, rfl, h, _⟩
    · exact ⟨none, 0, rfl, Nat.le_refl _⟩
    · exact ⟨_, _, rfl, h⟩

theorem drop_get {α : Type} {xs : List α} {l i : Nat} {y : α} (h : (xs.drop l)[i]? = some y) : xs[l + i]? = some y := by rwa [List.getElem?_drop] at h
theorem take_get {α : Type} {xs : List α} {k i : Nat} {y : α} (h : (xs.take k)[i]? = some y) : xs[i]? = some y := by
  rw [List.getElem?_take] at h
  split at h
  · exact h
  · simp at h

theorem ints_opt {lo : Option Operand} {l : Option Int} (inv : Inv w0 M0 g st a w) (h : intOf? st lo = some l) : ∃ kd : IntKind, lo.map a.eval = l.map (.int kd) := by
  cases lo with
  | none => simp [intOf?] at h; subst h; exact ⟨.i64, rfl⟩
  | some x =>
    simp only [intOf?] at h
    split at h
    · rename_i kd n hx
      simp at h
      subst h
      exact ⟨kd, by simp [getInt_rel inv hx]⟩
    · simp at h

theorem sliceStr_sound {P : Program} {T : TypeId} {s : ByteArray} {lo hi : Option Int} {kl kh : IntKind} {k : KO} {r : Res} (hT : P.underlying T = some .string) (inv : Inv w0 M0 g st a w) (h : sliceStr s lo hi st k = some r) :
    OpGood P w0 M0 a w k r (Instr.sliceAt T (.string s) (lo.map (.int kl)) (hi.map (.int kh)) none) := by
  unfold sliceStr at h
  split at h
  · exact ⟨_, st, g, _, w, h, inv, vS_rel rfl, by simp [Instr.sliceAt, Instr.slice, run_underlying hT, Instr.sliceBounds]⟩
  · rcases br_some h with ⟨hr, h⟩ | ⟨_, h⟩
    · obtain ⟨h0, h1⟩ := leR_iff hr
      exact ⟨_, st, g, _, w, h, inv, vS_rel rfl, by simp [Instr.sliceAt, Instr.slice, run_underlying hT, Instr.sliceBounds, run_sliceBound, h0, h1]⟩
    · simp at h
  · rcases br_some h with ⟨hr, h⟩ | ⟨_, h⟩
    · obtain ⟨h0, h1⟩ := leR_iff hr
      exact ⟨_, st, g, _, w, h, inv, vS_rel rfl, by simp [Instr.sliceAt, Instr.slice, run_underlying hT, Instr.sliceBounds, run_sliceBound, h0, h1]⟩
    · simp at h
  · rename_i l hh
    rcases br_some h with ⟨hr, h⟩ | ⟨_, h⟩
    · obtain ⟨h0, h1⟩ := leR_iff hr
      rcases br_some h with ⟨hr2, h⟩ | ⟨_, h⟩
      · obtain ⟨h2, h3⟩ := leR_iff hr2
        have h4 : l ≤ hh := by omega
        have h5 : (hh.toNat : Int) = hh := by omega
        exact ⟨_, st, g, _, w, h, inv, vS_rel rfl, by simp [Instr.sliceAt, Instr.slice, run_underlying hT, Instr.sliceBounds, run_sliceBound, h0, h1, h2, h4, h5]⟩
      · simp at h
    · simp at h

theorem sliceRow_sound {P : Program} {T E : TypeId} {t : Tag} {e : CL} {nl : Bool} {xs : List e.den} {lo hi mx : Option Int} {kl kh km : IntKind} {k : KO} {r : Res} {x : Value} (hE : elemOfT P T = some (E, e)) (inv : Inv w0 M0 g st a w)
    (hx : RelC g w ⟨t, .sl e nl xs⟩ x) (h : sliceRow t e nl xs lo hi mx st k = some r) :
    OpGood P w0 M0 a w k r (Instr.sliceAt T x (lo.map (.int kl)) (hi.map (.int kh)) (mx.map (.int km))) := by
  obtain ⟨inf, z, hd, hi', hz, hsz, hzs, hb, _⟩ := elemOfT_some hE
  have ht := elem_eq hd
  have hs : ∀ w : World, (sizeOf (P.elem T)).run P w = .ok e.size w := fun w => by simp [elem_is hd, sizeOf, typeInfo, hi', hsz]
  obtain ⟨ad, cap, rfl, hcap⟩ := sl_value hx
  unfold sliceRow at h
  split at h
  · obtain ⟨_, _, hr⟩ := piece_rel hx (l := 0) (h := xs.length) (ys := xs) (Nat.zero_le _) (Nat.le_refl _) rfl (fun i y hy => by simpa using hy)
    refine ⟨_, st, g, _, w, h, inv, hr, ?_⟩
    simp [run_sliceAt_slice w T _ _ _ _ ht, run_slice_all w T ad xs.length cap ht, hs]
  · rename_i l
    rcases br_some h with ⟨hr, h⟩ | ⟨_, h⟩
    · obtain ⟨h0, h1⟩ := leR_iff hr
      obtain ⟨_, _, hr⟩ := piece_rel hx (l := l.toNat) (h := xs.length) (ys := xs.drop l.toNat) (by omega) (Nat.le_refl _) (by simp) (fun i y hy => drop_get hy)
      refine ⟨_, st, g, _, w, h, inv, hr, ?_⟩
      simp [run_sliceAt_slice w T _ _ _ _ ht, run_slice_l w T ad xs.length cap ht kl l h0 h1, hs]
    · simp at h
  · rename_i hh
    rcases br_some h with ⟨hr, h⟩ | ⟨_, h⟩
    · obtain ⟨h0, h1⟩ := leR_iff hr
      obtain ⟨_, _, hr⟩ := piece_rel hx (l := 0) (h := hh.toNat) (ys := xs.take hh.toNat) (by omega) (by omega) (by simp; omega) (fun i y hy => by simpa using take_get hy)
      refine ⟨_, st, g, _, w, h, inv, hr, ?_⟩
      simp [run_sliceAt_slice w T _ _ _ _ ht, run_slice_h w T ad xs.length cap ht kh hh h0 (by omega), hs]
    · simp at h
  · rename_i l hh
    rcases br_some h with ⟨hr, h⟩ | ⟨_, h⟩
    · obtain ⟨h0, h1⟩ := leR_iff hr
      rcases br_some h with ⟨hr2, h⟩ | ⟨_, h⟩
      · obtain ⟨h2, h3⟩ := leR_iff hr2
        obtain ⟨_, _, hr⟩ := piece_rel hx (l := l.toNat) (h := hh.toNat) (ys := (xs.take hh.toNat).drop l.toNat) (by omega) (by omega) (by simp; omega) (fun i y hy => take_get (drop_get hy))
        refine ⟨_, st, g, _, w, h, inv, hr, ?_⟩
        simp [run_sliceAt_slice w T _ _ _ _ ht, run_slice_lh w T ad xs.length cap ht kl kh l hh h2 (by omega) (by omega), hs]
      · simp at h
    · simp at h
  · rename_i hh m
    rcases br_some h with ⟨hr, ha⟩ | ⟨_, h⟩
    · obtain ⟨h0, h1⟩ := leR_iff hr
      rcases br_some ha with ⟨hr2, hb2⟩ | ⟨_, h⟩
      · have hm : hh = m := of_decide_eq_true hr2
        clear h
        subst hm
        rcases br_some hb2 with ⟨_, h⟩ | ⟨hnl, h⟩
        · simp at h
        · subst hnl
          have hlen : (xs.take hh.toNat).length = hh.toNat := by simp; omega
          have hrun : (Instr.sliceAt T (.slice ad xs.length cap) ((none : Option Int).map (.int kl)) ((some hh).map (.int kh)) ((some hh).map (.int km))).run P w = .ok (sliced ad 0 hh.toNat hh.toNat e.size) w := by
            simp [run_sliceAt_slice w T _ _ _ _ ht, run_slice_hm w T ad xs.length cap ht kh km hh hh h0 (Int.le_refl _) (by omega), hs]
          have hval : ∀ {b o : Nat}, sliced (some ⟨b, o, none⟩) 0 hh.toNat hh.toNat e.size = .slice (some ⟨b, o, none⟩) (xs.take hh.toNat).length (xs.take hh.toNat).length := by
            intro b o
            simp only [sliced, Option.map_some, addr_add, hlen, Nat.zero_mul, Nat.add_zero, Nat.sub_zero, ite_self]
          cases t with
          | ro =>
            rcases hx with ⟨h0, _⟩ | ⟨_, b, o, c, hx, h2, h3⟩
            · simp at h0
            · simp at hx
              obtain ⟨rfl, rfl⟩ := hx
              exact ⟨_, st, g, _, w, h, inv, ⟨b, o, hval, fun i y hy => h3 i y (take_get hy)⟩, hrun⟩
          | own gr s =>
            rcases hx with ⟨h0, _⟩ | ⟨_, b, o, c, nn, q1, hx, q3, q4, q5, q6, q7, q8⟩
            · simp at h0
            · simp at hx
              obtain ⟨rfl, rfl⟩ := hx
              refine ⟨_, st, g, _, w, h, inv, ?_, hrun⟩
              have hf : o + (xs.take hh.toNat).length * e.size ≤ nn := by
                have := Nat.mul_le_mul_right e.size (show (xs.take hh.toNat).length ≤ cap by omega)
                omega
              cases s <;> exact ⟨b, o, nn, q1, hval, q4, hf, fun i y hy => q8 i y (take_get hy)⟩
      · simp at h
    · simp at h
  · simp at h

theorem sliceK_sound {P : Program} {T : TypeId} {c : C} {lo hi mx : Option Int} {kl kh km : IntKind} {k : KO} {r : Res} {x : Value} (inv : Inv w0 M0 g st a w) (hx : RelC g w c x) (h : sliceK P T c lo hi mx st k = some r) :
    OpGood P w0 M0 a w k r (Instr.sliceAt T x (lo.map (.int kl)) (hi.map (.int kh)) (mx.map (.int km))) := by
  unfold sliceK at h
  split at h
  · rename_i hT
    split at h
    · rename_i t s
      have : x = .string s := by cases t <;> exact hx.1
      subst this
      exact sliceStr_sound hT inv h
    · simp at h
  · split at h
    · simp at h
    · rename_i E e' hE
      split at h
      · rename_i t e nl xs
        have hee := (bif_some h).1
        replace h := (bif_some h).2
        have := CL.beq_eq hee
        subst this
        exact sliceRow_sound hE inv hx h
      · simp at h
  · simp at h
end
end Go.Proofs.Ythiaaaedfidnjaa.Am

namespace Go.Proofs.Ythiaaaedfidnjaa.Am
open Go Go.RowKit
section
variable {w0 : Base} {M0 : Mem} {g : G} {st : St} {a : Act} {w : World}

theorem setAll_length {α : Type} : ∀ (ys xs : List α) (o : Nat), (setAll xs o ys).length = xs.length
  | [], _, _ => rfl
  | y :: r, xs, o => by simp [setAll, setAll_length r]
theorem setAll_get {α : Type} : ∀ (ys xs : List α) (o i : Nat) (z : α), (setAll xs o ys)[i]? = some z → (o ≤ i ∧ ys[i - o]? = some z) ∨ ((i < o ∨ o + ys.length ≤ i) ∧ xs[i]? = some z)
  | [], xs, o, i, z, h => by
    right
    exact ⟨by simp; omega, h⟩
  | y :: r, xs, o, i, z, h => by
    rcases setAll_get r (xs.set o y) (o + 1) i z h with ⟨h1, h2⟩ | ⟨h1, h2⟩
    · left
      refine ⟨by omega, ?_⟩
      rw [show i - o = (i - (o + 1)) + 1 by omega]
      simpa using h2
    · rw [List.getElem?_set] at h2
      split at h2
      · rename_i hoi
        subst hoi
        split at h2
        · left
          simp at h2
          subst h2
          exact ⟨Nat.le_refl _, by simp⟩
        · simp at h2
      · right
        exact ⟨by simp; omega, h2⟩

theorem RelC.onCopy {gr b p : Nat} {vs : List Value} {e : CL} {f : List e.den → List e.den} {c : C} {u : Value} (ok : GOK w0 M0 g w) (hb : g.ω gr = some b)
    (hf : ∀ xs : List e.den, (∀ i y, xs[i]? = some y → e.sees (memOf w) g.M b (i * e.size) y) → (f xs).length = xs.length ∧ ∀ i y, (f xs)[i]? = some y → e.sees (memOf (w.setCells b p vs)) g.M b (i * e.size) y)
    (hf0 : f [] = []) (h : RelC g w c u) : RelC g (w.setCells b p vs) (C.onCopy gr e f c) u := by
  obtain ⟨t, av⟩ := c
  cases t with
  | ro => exact RelC.roTo (Mem.le_refl g.M) rfl h
  | own gr' s =>
    rcases beq_cases gr gr' with ⟨hbq, he⟩ | ⟨hbq, he⟩
    · subst he
      cases s with
      | some l =>
        have : C.onCopy gr e f ⟨.own gr (some l), av⟩ = ⟨.ro, .junk⟩ := by cases av <;> simp [C.onCopy, hbq]
        rw [this]
        exact h.one
      | none =>
        cases av with
        | sl e' nl xs =>
          simp only [C.onCopy, hbq, cond_true]
          split
          · rename_i hee
            have := CL.beq_eq hee
            subst this
            rcases h with ⟨h0, h1, h2⟩ | ⟨h0, b', o, cap, n, h1, h2, h3, h4, h5, h6, h7, h8⟩
            · subst h1
              exact .inl ⟨h0, by simp [castL, hf0], h2⟩
            · rw [hb] at h1
              obtain rfl := Option.some.inj h1
              obtain rfl := h6 rfl
              obtain ⟨q1, q2⟩ := hf xs fun i y hy => by have := h8 i y hy; rwa [Nat.zero_add] at this
              refine .inr ⟨h0, b, 0, cap, n, hb, by simpa [castL, q1] using h2, by simpa [castL, q1] using h3, h4.setCells _ _ _, h5, fun _ => rfl, fun l hl => by simp at hl, fun j z hz => ?_⟩
              rw [Nat.zero_add]
              exact q2 j z hz
          · exact h.one
        | ea e' xs j o =>
          have : C.onCopy gr e f ⟨.own gr none, .ea e' xs j o⟩ = ⟨.ro, .junk⟩ := by simp [C.onCopy, hbq]
          rw [this]; exact h.one
        | v x =>
          have : C.onCopy gr e f ⟨.own gr none, .v x⟩ = ⟨.ro, .junk⟩ := by simp [C.onCopy, hbq]
          rw [this]; exact h.one
        | slf e' xs =>
          have : C.onCopy gr e f ⟨.own gr none, .slf e' xs⟩ = ⟨.ro, .junk⟩ := by simp [C.onCopy, hbq]
          rw [this]; exact h.one
        | nilv =>
          have : C.onCopy gr e f ⟨.own gr none, .nilv⟩ = ⟨.ro, .junk⟩ := by simp [C.onCopy, hbq]
          rw [this]; exact h.one
        | ptr b o =>
          have : C.onCopy gr e f ⟨.own gr none, .ptr b o⟩ = ⟨.ro, .junk⟩ := by simp [C.onCopy, hbq]
          rw [this]; exact h.one
        | fn f' cs =>
          have : C.onCopy gr e f ⟨.own gr none, .fn f' cs⟩ = ⟨.ro, .junk⟩ := by simp [C.onCopy, hbq]
          rw [this]; exact h.one
        | junk =>
          have : C.onCopy gr e f ⟨.own gr none, .junk⟩ = ⟨.ro, .junk⟩ := by simp [C.onCopy, hbq]
          rw [this]; exact h.one
    · have : C.onCopy gr e f ⟨.own gr' s, av⟩ = ⟨.own gr' s, av⟩ := by cases s <;> cases av <;> simp [C.onCopy, hbq]
      rw [this]
      exact RelC.set_other ok hb (fun s' e => by simp at e; exact he e.1.symm) h

/-- A copy of nothing. -/
theorem RelC.onCopy_id {gr : Nat} {e : CL} {f : List e.den → List e.den} {c : C} {u : Value} (hf : ∀ l, f l = l) (h : RelC g w c u) : RelC g w (C.onCopy gr e f c) u := by
  obtain ⟨t, av⟩ := c
  cases t with
  | ro => exact h
  | own gr' s =>
    rcases beq_cases gr gr' with ⟨hbq, he⟩ | ⟨hbq, he⟩
    · cases s with
      | some l =>
        have : C.onCopy gr e f ⟨.own gr' (some l), av⟩ = ⟨.ro, .junk⟩ := by cases av <;> simp [C.onCopy, hbq]
        rw [this]
        exact h.one
      | none =>
        cases av with
        | sl e' nl xs =>
          simp only [C.onCopy, hbq, cond_true]
          split
          · rename_i hee
            have := CL.beq_eq hee
            subst this
            rw [hf]
            exact h
          · exact h.one
        | _ =>
          have : ∀ {x : AV}, (∀ e nl xs, x ≠ .sl e nl xs) → C.onCopy gr e f ⟨.own gr' none, x⟩ = ⟨.ro, .junk⟩ := by
            intro x hx
            cases x <;> first | (simp [C.onCopy, hbq]; done) | exact absurd rfl (hx _ _ _)
          rw [this (by intros; simp)]
          exact h.one
    · have : C.onCopy gr e f ⟨.own gr' s, av⟩ = ⟨.own gr' s, av⟩ := by cases s <;> cases av <;> simp [C.onCopy, hbq]
      rw [this]
      exact h

theorem Inv.mapC {f : C → C} (inv : Inv w0 M0 g st a w) (hf : ∀ c u, RelC g w c u → RelC g w (f c) u) : Inv w0 M0 g (st.map f) a w :=
  ⟨inv.ok, inv.rel.map hf rfl fun _ _ => rfl, inv.defs⟩

theorem copyK_sound {P : Program} {T T2 ty : TypeId} {x y : C} {k : KO} {r : Res} {vx vy : Value} (inv : Inv w0 M0 g st a w) (hx : RelC g w x vx) (hy : RelC g w y vy) (h : copyK P T T2 x y st k = some r) :
    OpGood P w0 M0 a w k r (Builtin.copy_ #[T, T2] ty #[vx, vy]) := by
  unfold copyK at h
  split at h
  · simp at h
  · rename_i E e hE
    split at h
    · simp at h
    · rename_i ys hys
      obtain ⟨news, hsrc, hn, hfirst⟩ := srcOf_sound inv hy hys
      obtain ⟨i, z, hd, hi, hz, hsz, hzs, hb, _⟩ := elemOfT_some hE
      split at h
      · rename_i gr s e' nl xs
        have hee := (bif_some h).1
        replace h := (bif_some h).2
        have := CL.beq_eq hee
        subst this
        obtain ⟨ad, cap, rfl, hcap⟩ := sl_value hx
        have hm : Nat.min ys.length xs.length = min ys.length xs.length := rfl
        have hfm := hfirst (min ys.length xs.length) (Nat.min_le_left _ _)
        by_cases h0 : min ys.length xs.length = 0
        · have hrun : (Builtin.copy_ #[T, T2] ty #[.slice ad xs.length cap, vy]).run P w = .ok (.int .i64 ((min ys.length xs.length : Nat) : Int)) w := by
            rw [h0] at hfm ⊢
            simp only [Nat.zero_mul, List.take_zero] at hfm
            cases ad <;> simp [Builtin.copy_, run_underlying hd, hsrc.len, sizeOf, typeInfo, hi, ← hsz, hm, h0, hfm, storeCells, goInt]
          refine ⟨_, _, g, _, w, h, inv.mapC fun c u hc => hc.onCopy_id fun l => by rw [h0]; simp [setAll], vS_rel rfl, hrun⟩
        · have hne : xs ≠ [] := fun e => by subst e; simp at h0
          rcases hx with ⟨_, rfl, _⟩ | ⟨_, b, o, c, nn, q1, hx, q3, q4, q5, q6, q7, q8⟩
          · exact (hne rfl).elim
          · simp at hx
            obtain ⟨rfl, rfl⟩ := hx
            have ho : o = (s.getD 0) * e'.size := by
              cases s with
              | none => rw [q6 rfl]; simp
              | some l => exact q7 l rfl hne
            have hl : (news.take (min ys.length xs.length * e'.size)).length = min ys.length xs.length * e'.size := by
              rw [List.length_take, hsrc.newsLen]
              exact Nat.min_eq_left (Nat.mul_le_mul_right _ (Nat.min_le_left _ _))
            have hfit : o + (news.take (min ys.length xs.length * e'.size)).length ≤ nn := by
              rw [hl]
              have := Nat.mul_le_mul_right e'.size (show min ys.length xs.length ≤ cap by omega)
              omega
            have hone : ∀ u ∈ news.take (min ys.length xs.length * e'.size), u.oneCell' = true := fun u hu => hsrc.one u (List.mem_of_mem_take hu)
            have hst := run_storeCells_cells (P := P) b o (news.take (min ys.length xs.length * e'.size)) 0 w (fun j hj => q4.cell (by omega)) (fun j hj => q4.frozen (by omega)) hone
            simp only [Nat.add_zero] at hst
            have hrun : (Builtin.copy_ #[T, T2] ty #[.slice (some ⟨b, o, none⟩) xs.length cap, vy]).run P w = .ok (.int .i64 ((min ys.length xs.length : Nat) : Int)) (w.setCells b o (news.take (min ys.length xs.length * e'.size))) := by
              simp [Builtin.copy_, run_underlying hd, hsrc.len, sizeOf, typeInfo, hi, ← hsz, hm, hfm, hst, goInt]
            have hnil : setAll ([] : List e'.den) (s.getD 0) (ys.take (min ys.length xs.length)) = [] := List.eq_nil_of_length_eq_zero (by rw [setAll_length]; rfl)
            have hC : ∀ l : List e'.den, (∀ i y, l[i]? = some y → e'.sees (memOf w) g.M b (i * e'.size) y) → (setAll l (s.getD 0) (ys.take (min ys.length xs.length))).length = l.length ∧
                ∀ j y, (setAll l (s.getD 0) (ys.take (min ys.length xs.length)))[j]? = some y → e'.sees (memOf (w.setCells b o (news.take (min ys.length xs.length * e'.size)))) g.M b (j * e'.size) y := by
              intro l hl2
              refine ⟨setAll_length _ _ _, fun j y hj => ?_⟩
              rcases setAll_get _ _ _ _ _ hj with ⟨h1, h2⟩ | ⟨h1, h2⟩
              · have h3 : j - s.getD 0 < min ys.length xs.length := by
                  have h4 : j - s.getD 0 < (ys.take (min ys.length xs.length)).length := by
                    rcases Nat.lt_or_ge (j - s.getD 0) (ys.take (min ys.length xs.length)).length with h | h
                    · exact h
                    · simp [List.getElem?_eq_none h] at h2
                  simp at h4
                  omega
                have h5 := hn (fun b' p => if b' = b then memOf (w.setCells b o (news.take (min ys.length xs.length * e'.size))) b (o + p) else none)
                -- the new element is read where it was stored
                obtain ⟨us, a1, a2, a3, a4⟩ := sees_list e' (hn (fun _ p => news[p]?) 0 0 (fun j u hu => by simpa using hu) _ _ (take_get h2))
                refine a4 _ _ _ fun t u hu => ?_
                have ht : t < e'.size := by
                  rcases Nat.lt_or_ge t us.length with h | h
                  · omega
                  · simp [List.getElem?_eq_none h] at hu
                have h6 := a2 t u hu
                simp only [Nat.zero_add] at h6
                have h8 := Nat.mul_le_mul_right e'.size (show j - s.getD 0 + 1 ≤ min ys.length xs.length from h3)
                rw [Nat.add_mul] at h8
                have h7 : (news.take (min ys.length xs.length * e'.size))[(j - s.getD 0) * e'.size + t]? = some u := by
                  rw [List.getElem?_take, if_pos (by omega)]
                  exact h6
                have h9 := memOf_set_in (o := o) q4 hfit h7
                have h10 : o + ((j - s.getD 0) * e'.size + t) = j * e'.size + t := by
                  rw [ho, ← Nat.add_assoc, ← Nat.add_mul]
                  congr 2
                  omega
                rwa [h10] at h9
              · refine sees_apart (hl2 j y h2) fun t ht => ?_
                rw [hl, ho, ← Nat.add_mul]
                have hlt : (ys.take (min ys.length xs.length)).length = min ys.length xs.length := by simp
                rw [hlt] at h1
                rcases h1 with h1 | h1
                · have := Nat.mul_le_mul_right e'.size (show j + 1 ≤ s.getD 0 from h1)
                  rw [Nat.add_mul] at this
                  omega
                · have := Nat.mul_le_mul_right e'.size h1
                  omega
            exact ⟨_, _, g, _, _, h, inv.setOwn q1 (fun c u hc => RelC.onCopy inv.ok q1 hC hnil hc), vS_rel rfl, hrun⟩
      · simp at h
end
end Go.Proofs.Ythiaaaedfidnjaa.Am

namespace Go.Proofs.Ythiaaaedfidnjaa.Am
open Go Go.RowKit
section
variable {w0 : Base} {M0 : Mem} {g : G} {st : St} {a : Act} {w : World}

theorem foldl_zip (off : Nat) : ∀ (vs : List Value) (i : Nat) (cells : Array Value), (vs.zipIdx i).foldl (fun cs p => cs.setIfInBounds (off + p.2) p.1) cells = arrSet cells (off + i) vs
  | [], _, _ => rfl
  | v :: r, i, cells => by
    simp only [List.zipIdx_cons, List.foldl_cons, arrSet]
    rw [foldl_zip off r (i + 1)]
    rfl
theorem fill_cons {place : Nat → Option (Nat × Nat)} {cells : Array Value} {i : Nat} {v : Value} {rest : List (Nat × Value)} {off size : Nat} (hp : place i = some (off, size)) (h1 : v.cells.size = size) (h2 : off + v.cells.size ≤ cells.size) :
    Instr.fill place cells ((i, v) :: rest) = Instr.fill place (arrSet cells off v.cells.toList) rest := by
  simp only [Instr.fill, hp]
  have : ¬ (v.cells.size ≠ size || decide (off + v.cells.size > cells.size)) = true := by simp [h1]; omega
  rw [if_neg this, ← Array.foldl_toList, Array.toList_zipIdx]
  have := foldl_zip off v.cells.toList 0 cells
  rw [Nat.add_zero] at this
  rw [← this]

theorem zeroS1_sound {P : Program} {T : TypeId} {s : S1} (h : zeroS1 P T = some s) : ∃ i z, P.info? T = some i ∧ i.zero = some z ∧ z.cells.size = i.size ∧ RelS1 g w s z := by
  unfold zeroS1 at h
  split at h
  · rename_i i hi
    split at h
    · rename_i z hz
      exact ⟨i, z, hi, hz, by simpa using (bif_some h).1, constS1_rel (bif_some h).2⟩
    · simp at h
  · simp at h

theorem placesOf_eq {P : Program} : ∀ {fs : List Field} {pl : List (Nat × Nat)}, placesOf P fs = some pl → fs.mapM (fun f => (P.info? f.type).map fun i => (f.offset, i.size)) = some pl
  | [], pl, h => by simp [placesOf] at h; subst h; simp
  | f :: r, pl, h => by
    simp only [placesOf] at h
    split at h
    · simp at h
    · rename_i i hi
      split at h
      · simp at h
      · rename_i l hl
        simp at h
        subst h
        simp [List.mapM_cons, hi, placesOf_eq hl]

theorem buildFill_sound {pl : List (Nat × Nat)} (inv : Inv w0 M0 g st a w) : ∀ {ps : List (Nat × Operand)} {cs cs' : List C} {us : Array Value}, buildFill st pl cs ps = some cs' → All2 (RelC g w) cs us.toList →
    ∃ us', Instr.fill (pl.toArray[·]?) us (ps.map fun p => (p.1, a.eval p.2)) = some us' ∧ All2 (RelC g w) cs' us'.toList
  | [], cs, cs', us, h, hc => by simp [buildFill] at h; subst h; exact ⟨us, rfl, hc⟩
  | (i, x) :: r, cs, cs', us, h, hc => by
    simp only [buildFill] at h
    split at h
    · simp at h
    · rename_i o n hp
      split at h
      · simp at h
      · rename_i s hs
        have h1 := (bif_some h).1
        replace h := (bif_some h).2
        simp at h1
        have hv := S1.rel_cells (get1_rel inv hs)
        have hl : s.cells.length = (a.eval x).cells.size := by have := hv.length; simpa using this
        have hcl : cs.length = us.size := by have := hc.length; simpa using this
        obtain ⟨us', h2, h3⟩ := buildFill_sound inv h (All2.arrSet o hc hv)
        refine ⟨us', ?_, h3⟩
        rw [List.map_cons, fill_cons (off := o) (size := n) (by simpa using hp) (by show (a.eval x).cells.size = n; omega) (by show o + (a.eval x).cells.size ≤ us.size; omega)]
        exact h2

theorem buildK_sound {P : Program} {T : TypeId} {ps : Array (Nat × Operand)} {k : KO} {r : Res} (inv : Inv w0 M0 g st a w) (h : buildK P T ps.toList st k = some r) :
    OpGood P w0 M0 a w k r (Instr.build T (ps.map fun (i, x) => (i, a.eval x))) := by
  unfold buildK at h
  split at h
  · rename_i fs hd
    split at h
    · rename_i pl z hpl hz
      split at h
      · rename_i cs hcs
        obtain ⟨i, zv, hi, hzv, hzs, hr⟩ := zeroS1_sound (g := g) (w := w) hz
        obtain ⟨us, rfl, hzr⟩ := hr
        obtain ⟨us', h2, h3⟩ := buildFill_sound inv hcs hzr
        refine ⟨_, st, g, _, w, h, inv, ⟨us', rfl, h3⟩, run_build w T _ us' ?_⟩
        simp only [Program.built, hi, hd, hzv, placesOf_eq hpl]
        simpa [Value.cells] using h2
      · simp at h
    · simp at h
  · simp at h

/-! ## slices that are written out -/
theorem partFor_get {j : Nat} : ∀ {ps : List (Nat × Operand)} {cs : List C}, partFor st j ps = some (some cs) → ∃ x s, (j, x) ∈ ps ∧ st.get1 x = some s ∧ cs = s.cells
  | [], cs, h => by simp [partFor] at h
  | (i, x) :: r, cs, h => by
    simp only [partFor] at h
    split at h
    · simp at h
    · rename_i cs' hr
      simp at h
      subst h
      obtain ⟨x', s, h1, h2, h3⟩ := partFor_get hr
      exact ⟨x', s, List.mem_cons_of_mem _ h1, h2, h3⟩
    · cases hb : Nat.beq i j with
      | true =>
        rw [hb] at h
        simp only [cond_true] at h
        split at h
        · rename_i s hs
          simp at h
          subst h
          have : i = j := Nat.eq_of_beq_eq_true hb
          subst this
          exact ⟨x, s, by simp, hs, rfl⟩
        · simp at h
      | false => rw [hb] at h; simp at h

theorem arrSet_get : ∀ (vs : List Value) (us : Array Value) (o p : Nat), (arrSet us o vs)[p]? = if o ≤ p ∧ p < o + vs.length ∧ p < us.size then vs[p - o]? else us[p]?
  | [], us, o, p => by simp [arrSet]; omega
  | v :: r, us, o, p => by
    simp only [arrSet]
    rw [arrSet_get r]
    simp only [Array.size_setIfInBounds, Array.getElem?_setIfInBounds, List.length_cons]
    by_cases h1 : o = p
    · subst h1
      have : ¬ (o + 1 ≤ o ∧ o < o + 1 + r.length ∧ o < us.size) := by omega
      rw [if_neg this]
      by_cases h2 : o < us.size
      · simp [h2]
      · simp [h2]
    · by_cases h2 : o + 1 ≤ p ∧ p < o + 1 + r.length ∧ p < us.size
      · rw [if_pos h2, if_pos ⟨by omega, by omega, by omega⟩, show p - o = (p - (o + 1)) + 1 by omega]
        simp
      · rw [if_neg h2, if_neg h1, if_neg (by omega)]

/-- What a literal's cells are: each element is what was said of it last, else what stood there. -/
theorem fill_sound {e : CL} {n : Nat} (inv : Inv w0 M0 g st a w) : ∀ {ps : List (Nat × Operand)} {us : Array Value}, partsOK st e n ps = true → us.size = n * e.size →
    ∃ us', Instr.fill (fun i => some (i * e.size, e.size)) us (ps.map fun p => (p.1, a.eval p.2)) = some us' ∧ us'.size = n * e.size ∧
      ∀ j t, j < n → t < e.size → (∀ cs, partFor st j ps = some (some cs) → ∃ x s, (j, x) ∈ ps ∧ st.get1 x = some s ∧ cs = s.cells ∧ us'[j * e.size + t]? = (a.eval x).cells[t]?) ∧
        (partFor st j ps = some none → us'[j * e.size + t]? = us[j * e.size + t]?)
  | [], us, _, hs => ⟨us, rfl, hs, fun j t _ _ => ⟨fun cs h => by simp [partFor] at h, fun _ => rfl⟩⟩
  | (i, x) :: r, us, hok, hs => by
    simp only [partsOK] at hok
    split at hok
    · rename_i s hsx
      simp at hok
      have hv := S1.rel_cells (get1_rel inv hsx)
      have hl : (a.eval x).cells.size = e.size := by have := hv.length; simp at this; omega
      have hin : i * e.size + e.size ≤ n * e.size := by
        have := Nat.mul_le_mul_right e.size (show i + 1 ≤ n from hok.1.2)
        rw [Nat.add_mul] at this
        omega
      obtain ⟨us', h1, h2, h3⟩ := fill_sound inv (ps := r) (us := arrSet us (i * e.size) (a.eval x).cells.toList) hok.2 (by rw [arrSet_size]; exact hs)
      refine ⟨us', ?_, h2, fun j t hj ht => ?_⟩
      · rw [List.map_cons, fill_cons (off := i * e.size) (size := e.size) rfl hl (by omega)]
        exact h1
      · obtain ⟨h4, h5⟩ := h3 j t hj ht
        have hjt : j * e.size + t < us.size := by
          have := Nat.mul_le_mul_right e.size (show j + 1 ≤ n from hj)
          rw [Nat.add_mul] at this
          omega
        refine ⟨fun cs hcs => ?_, fun hno => ?_⟩
        · simp only [partFor] at hcs
          split at hcs
          · simp at hcs
          · rename_i cs' hr
            simp at hcs
            subst hcs
            obtain ⟨x', s', q1, q2, q3, q4⟩ := h4 _ hr
            exact ⟨x', s', List.mem_cons_of_mem _ q1, q2, q3, q4⟩
          · rename_i hr
            cases hb : Nat.beq i j with
            | false => rw [hb] at hcs; simp at hcs
            | true =>
              have : i = j := Nat.eq_of_beq_eq_true hb
              subst this
              rw [hb] at hcs
              simp [hsx] at hcs
              subst hcs
              refine ⟨x, s, by simp, hsx, rfl, ?_⟩
              rw [h5 hr, arrSet_get, if_pos ⟨by omega, by simp [hl]; omega, hjt⟩, show i * e.size + t - i * e.size = t by omega]
              simp
        · simp only [partFor] at hno
          split at hno
          · simp at hno
          · simp at hno
          · rename_i hr
            cases hb : Nat.beq i j with
            | true => rw [hb] at hno; simp [hsx] at hno
            | false =>
              have hij : i ≠ j := fun e => by subst e; simp at hb
              rw [h5 hr, arrSet_get, if_neg]
              rcases mul_apart (s := e.size) (t := t) (i := i) (j := j) (Ne.symm hij) ht with h | h <;> simp [hl] <;> omega
    · simp at hok
end
end Go.Proofs.Ythiaaaedfidnjaa.Am

namespace Go.Proofs.Ythiaaaedfidnjaa.Am
open Go Go.RowKit
section
variable {w0 : Base} {M0 : Mem} {g : G} {st : St} {a : Act} {w : World}

theorem constC_ro {v : Value} {c : C} (h : constC v = some c) : c = ⟨.ro, c.av⟩ := by
  unfold constC at h
  split at h <;> simp at h <;> subst h <;> rfl
theorem constCs_ro : ∀ {vs : List Value} {cs : List C}, constCs vs = some cs → ∀ c ∈ cs, c = ⟨.ro, c.av⟩
  | [], cs, h, c, hc => by simp [constCs] at h; subst h; simp at hc
  | v :: vs, cs, h, c, hc => by
    simp only [constCs] at h
    split at h
    · simp at h
    · rename_i c' hc'
      split at h
      · simp at h
      · rename_i cs' hcs
        simp at h
        subst h
        simp at hc
        rcases hc with rfl | hc
        · exact constC_ro hc'
        · exact constCs_ro hcs c hc

theorem zeroEl_sound {P : Program} {E : TypeId} {e : CL} {y : e.den} {i : TypeInfo} {z : Value} (h : zeroEl P E e = some y) (hi : P.info? E = some i) (hz : i.zero = some z) {N : Mem} {M : Mem} {b o : Nat}
    (hN : ∀ (t : Nat) (u : Value), z.cells[t]? = some u → t < e.size → N b (o + t) = some u) : e.sees N M b o y := by
  unfold zeroEl at h
  simp only [hi, hz] at h
  split at h
  · rename_i cs hcs
    split at h
    · rename_i y' hy
      simp at h
      subst h
      refine (CL.sees_dec e (g := ⟨M, [], fun _ => none⟩) (w := default) hy fun j av hj hjs => ?_).1
      rw [avs_get] at hj
      cases hc : cs[j]? with
      | none => simp [hc] at hj
      | some c =>
        simp [hc] at hj
        subst hj
        obtain ⟨u, hu, hr⟩ := (constCs_rel (g := ⟨M, [], fun _ => none⟩) (w := default) hcs).get j c hc
        rw [constCs_ro hcs c (List.mem_of_getElem? hc)] at hr
        exact ⟨u, hN j u (by simpa using hu) hjs, hr⟩
    · simp at h
  · simp at h

theorem buildEls_get {P : Program} {E : TypeId} {e : CL} {ps : List (Nat × Operand)} : ∀ {n j0 : Nat} {xs : List e.den}, buildEls P E st e ps n j0 = some xs → xs.length = n ∧
    ∀ i y, xs[i]? = some y → (partFor st (j0 + i) ps = some none ∧ zeroEl P E e = some y) ∨ (∃ cs, partFor st (j0 + i) ps = some (some cs) ∧ decEl e cs = some y)
  | 0, j0, xs, h => by simp [buildEls] at h; subst h; exact ⟨rfl, fun i y hy => by simp at hy⟩
  | n + 1, j0, xs, h => by
    simp only [buildEls] at h
    split at h
    · simp at h
    · rename_i p hp
      split at h
      · simp at h
      · rename_i y0 hy0
        split at h
        · simp at h
        · rename_i l hl
          simp at h
          subst h
          obtain ⟨h1, h2⟩ := buildEls_get hl
          refine ⟨by simp [h1], fun i y hy => ?_⟩
          cases i with
          | zero =>
            simp at hy
            subst hy
            cases p with
            | none => exact .inl ⟨hp, hy0⟩
            | some cs => exact .inr ⟨cs, hp, hy0⟩
          | succ i =>
            have := h2 i y (by simpa using hy)
            rwa [show j0 + 1 + i = j0 + (i + 1) by omega] at this

theorem groupsOf_mem : ∀ {xs : List Operand} {x : Operand} {s : S1} {r : Nat}, x ∈ xs → st.get1 x = some s → r ∈ groupsC s.cells → r ∈ groupsOf st xs
  | y :: ys, x, s, r, hx, hs, hr => by
    simp at hx
    simp only [groupsOf, List.mem_append]
    rcases hx with rfl | hx
    · left; rw [hs]; exact hr
    · right; exact groupsOf_mem hx hs hr

theorem mod_el {j t s : Nat} (ht : t < s) : (j * s + t) % s = t := by
  rw [Nat.mul_comm, Nat.mul_add_mod]
  exact Nat.mod_eq_of_lt ht

theorem buildSliceK_sound {P : Program} {d : Nat} {T : TypeId} {n : Nat} {ps : Array (Nat × Operand)} {k : KO} {r : Res} (inv : Inv w0 M0 g st a w) (h : buildSliceK P d T n ps.toList st k = some r) :
    OpGood P w0 M0 a w k r (Instr.buildSlice T n (ps.map fun (i, x) => (i, a.eval x))) := by
  unfold buildSliceK at h
  split at h
  · simp at h
  · rename_i E e hE
    have h0 := (bif_some h).1
    replace h := (bif_some h).2
    simp at h0
    split at h
    · simp at h
    · rename_i xs hxs
      obtain ⟨i, z, hd, hi, hz, hsz, hzs, hb, _⟩ := elemOfT_some hE
      obtain ⟨g1, inv1, hβ1, hM1, h5, h6, h7, h8⟩ := relinqAll_inv (groupsOf st (mapL (·.2) ps.toList)) inv
      have inv2 := inv1.freshen (grp d 0)
      have hle2 := relinq_le inv1 (grp d 0)
      -- what is laid before the parts
      obtain ⟨us0, hus0, hus0s, hus0z⟩ : ∃ us0 : Array Value, us0 = (Array.range (n * i.size)).map ((if n * i.size = 0 then (#[] : Array Value) else z.cells)[· % (if n * i.size = 0 then (#[] : Array Value) else z.cells).size]!) ∧ us0.size = n * e.size ∧
          ∀ j t, j < n → t < e.size → us0[j * e.size + t]? = z.cells[t]? := by
        refine ⟨_, rfl, by simp [hsz], fun j t hj ht => ?_⟩
        have hp : j * e.size + t < n * e.size := by
          have := Nat.mul_le_mul_right e.size (show j + 1 ≤ n from hj)
          rw [Nat.add_mul] at this
          omega
        have hne : ¬ n * i.size = 0 := by rw [← hsz]; omega
        rw [if_neg hne]
        have hp' : j * e.size + t < n * i.size := by rw [← hsz]; exact hp
        rw [Array.getElem?_map, Array.getElem?_range, if_pos hp']
        simp only [Option.map_some]
        rw [hzs, ← hsz, mod_el ht]
        have : t < z.cells.size := by omega
        rw [Array.getElem?_eq_getElem this]
        simp [this]
      obtain ⟨us', hfill, hus', hels⟩ := fill_sound inv (ps := ps.toList) (us := us0) h0.2 hus0s
      have hrun : (Instr.buildSlice T n (ps.map fun (i, x) => (i, a.eval x))).run P w = .ok (.slice (some ⟨w.heap.size, 0, none⟩) n n) (w.alloc (.cells us' E)) := by
        have hn24 : ¬ (16777216 < n * i.size) := by rw [← hsz]; omega
        have hfill' : Instr.fill (fun j => some (j * i.size, i.size)) us0 ((ps.map fun p => (p.1, a.eval p.2)).toList) = some us' := by
          rw [← hsz]; simpa using hfill
        by_cases hz0 : n * i.size = 0
        · rw [hus0, if_pos hz0] at hfill'
          rw [hz0] at hfill'
          simp [Instr.buildSlice, run_underlying hd, sizeOf, typeInfo, hi, hz0, newRow]
          simp at hfill'
          simp [hfill']
        · rw [hus0, if_neg hz0] at hfill'
          simp at hfill'
          simp [Instr.buildSlice, run_underlying hd, sizeOf, typeInfo, zeroValue, hi, hz, hz0, hn24, newRow, hfill']
      have hk : Below w.heap.size w (w.alloc (.cells us' E)) := (Below.refl _ _).alloc (Nat.le_refl _) _
      have inv3 := inv2.newOwn hk (by simp) (grp d 0) (by simp [G.relinq])
      obtain ⟨hlen, hget⟩ := buildEls_get hxs
      refine ⟨_, _, _, _, _, h, inv3, .inr ⟨rfl, w.heap.size, 0, n, us'.size, by simp [G.add], by rw [hlen], by omega, ownB_alloc, by omega, fun _ => rfl, fun l hl => by simp at hl, fun j y hy => ?_⟩, hrun⟩
      have hj : j < n := by
        rcases Nat.lt_or_ge j xs.length with h | h
        · omega
        · simp [List.getElem?_eq_none h] at hy
      show e.sees _ (g1.relinq w (grp d 0)).M _ _ _
      rw [Nat.zero_add]
      have hrd : ∀ t, memOf (w.alloc (.cells us' E)) w.heap.size (j * e.size + t) = us'[j * e.size + t]? := fun t => memOf_alloc
      rcases hget j y hy with ⟨hp, hy0⟩ | ⟨cs, hp, hdec⟩
      · rw [Nat.zero_add] at hp
        refine zeroEl_sound hy0 hi hz fun t u hu ht => ?_
        rw [hrd, (hels j t hj ht).2 hp, hus0z j t hj ht]
        exact hu
      · rw [Nat.zero_add] at hp
        unfold decEl at hdec
        have hcl := (bif_some hdec).1
        replace hdec := (bif_some hdec).2
        simp at hcl
        split at hdec
        · rename_i y' hyd
          simp at hdec
          subst hdec
          refine (CL.sees_dec e (g := g1.relinq w (grp d 0)) (w := w) hyd fun t av hav ht => ?_).1
          obtain ⟨x, s, hmem, hsx, rfl, hcell⟩ := (hels j t hj ht).1 cs hp
          have hgr : ∀ r, r ∈ groupsC s.cells → r ∈ groupsOf st (mapL (·.2) ps.toList) := fun r hr => groupsOf_mem (by rw [mapL_eq]; exact List.mem_map.2 ⟨_, hmem, rfl⟩) hsx hr
          have hro := All2.let_go h7 hgr (S1.rel_cells (get1_rel inv hsx))
          rw [avs_get] at hav
          cases hc : s.cells[t]? with
          | none => simp [hc] at hav
          | some c =>
            simp [hc] at hav
            subst hav
            obtain ⟨u, hu, hr⟩ := hro.get t c hc
            refine ⟨u, ?_, RelC.roTo hle2 rfl hr⟩
            rw [hrd, hcell]
            simpa using hu
        · simp at hdec

theorem makeSliceK_sound {P : Program} {d : Nat} {T : TypeId} {l c : Int} {kl kc : IntKind} {k : KO} {r : Res} (inv : Inv w0 M0 g st a w) (h : makeSliceK P d T l c st k = some r) :
    OpGood P w0 M0 a w k r (Instr.makeSlice T (.int kl l) (.int kc c)) := by
  unfold makeSliceK at h
  split at h
  · simp at h
  · rename_i E e hE
    obtain ⟨i, z, hd, hi, hz, hsz, hzs, hb, _⟩ := elemOfT_some hE
    split at h
    · simp at h
    · rename_i y hy
      rcases br_some h with ⟨h1, h2⟩ | ⟨_, h2⟩
      · simp at h1
        obtain ⟨h0, rfl⟩ := h1
        rcases br_some h2 with ⟨hf, h3⟩ | ⟨_, h3⟩
        · have hf' := fits_le hf
          rw [bytesOf_eq hi] at hf'
          have hbytes : (i.bytes : Int) * l ≤ 281474976710656 := by
            have : ((l.toNat * i.bytes : Nat) : Int) ≤ 70368744177664 := by
              have : (2 : Nat) ^ 46 = 70368744177664 := rfl
              omega
            rw [Int.natCast_mul, Int.toNat_of_nonneg h0, Int.mul_comm] at this
            omega
          have h63 : l ≤ 9223372036854775807 := by
            have := need_fits hb hf'
            have : (2 : Nat) ^ 46 = 70368744177664 := rfl
            omega
          have hrun := run_make (P := P) w T E i z hd hi hz kl kc l l h0 (Int.le_refl _) hbytes h63
          have inv1 := inv.freshen (grp d 0)
          have hk : Below w.heap.size w (w.alloc (.cells (madeCells z.cells (l.toNat * i.size)) E)) := (Below.refl _ _).alloc (Nat.le_refl _) _
          have inv2 := inv1.newOwn hk (by simp) (grp d 0) (by simp [G.relinq])
          refine ⟨_, _, _, _, _, h3, inv2, .inr ⟨rfl, w.heap.size, 0, l.toNat, (madeCells z.cells (l.toNat * i.size)).size, by simp [G.add], by simp, by simp, ownB_alloc, by rw [size_madeCells, hsz]; omega, fun _ => rfl, fun l hl => by simp at hl, fun j y' hy' => ?_⟩, hrun⟩
          have hj : j < l.toNat := by
            rcases Nat.lt_or_ge j (List.replicate l.toNat y).length with h | h
            · simpa using h
            · simp [List.getElem?_eq_none h] at hy'
          have : y' = y := by
            rw [List.getElem?_replicate, if_pos hj] at hy'
            simpa using hy'.symm
          subst this
          refine zeroEl_sound hy hi hz fun t u hu ht => ?_
          rw [Nat.zero_add, memOf_alloc]
          have hp : j * e.size + t < l.toNat * i.size := by
            have := Nat.mul_le_mul_right e.size (show j + 1 ≤ l.toNat from hj)
            rw [Nat.add_mul] at this
            rw [← hsz]; omega
          unfold madeCells
          rw [Array.getElem?_map, Array.getElem?_range, if_pos hp]
          simp only [Option.map_some]
          rw [hzs, ← hsz, mod_el ht]
          have htz : t < z.cells.size := by omega
          rw [Array.getElem?_eq_getElem htz] at hu
          rw [← hu]
          simp [htz]
        · simp at h3
      · simp at h2
end
end Go.Proofs.Ythiaaaedfidnjaa.Am

namespace Go.Proofs.Ythiaaaedfidnjaa.Am
open Go Go.RowKit
section
variable {w0 : Base} {M0 : Mem} {g : G} {st : St} {a : Act} {w : World}

theorem RelC.same_mem {w' : World} {c : C} {u : Value} (hm : ∀ b o, memOf w' b o = memOf w b o) (ho : ∀ b n, OwnB w b n → OwnB w' b n) (h : RelC g w c u) : RelC g w' c u := by
  have own : ∀ {e : CL} {b : Nat} {o : Nat} {y : e.den}, e.sees (memOf w) g.M b o y → e.sees (memOf w') g.M b o y := fun hs => CL.sees_mono _ (Mem.le_refl _) (fun b o u hu => by rw [hm]; exact hu) hs
  obtain ⟨t, av⟩ := c
  cases t with
  | ro => exact RelC.roTo (Mem.le_refl g.M) rfl h
  | own gr s =>
    cases av with
    | v x => exact h
    | sl e nl xs =>
      rcases h with h | ⟨h0, b, o, cap, n, h1, h2, h3, h4, h5, h6, h7, h8⟩
      · exact .inl h
      · exact .inr ⟨h0, b, o, cap, n, h1, h2, h3, ho _ _ h4, h5, h6, h7, fun i y hy => own (h8 i y hy)⟩
    | slf e xs =>
      obtain ⟨b, o, n, h1, h2, h3, h4, h5⟩ := h
      exact ⟨b, o, n, h1, h2, ho _ _ h3, h4, fun i y hy => own (h5 i y hy)⟩
    | nilv => exact h
    | ptr b o => exact h
    | fn f caps => exact h
    | ea e xs i o =>
      obtain ⟨y, b, o', n, h1, h2, h3, h4, h5, h6, h7⟩ := h
      exact ⟨y, b, o', n, h1, h2, h3, ho _ _ h4, h5, h6, own h7⟩
    | junk => exact h

theorem freeze_heap {b n : Nat} {cs : Array Value} {T : TypeId} {fr : Nat × Nat} (h : w.heap[b]? = some (.cells cs T fr)) :
    (w.freeze ⟨b, n, none⟩ 1).heap[b]? = some (.cells cs T (if fr.1 == fr.2 then (n, n + 1) else (min fr.1 n, max fr.2 (n + 1)))) ∧ ∀ k, k ≠ b → (w.freeze ⟨b, n, none⟩ 1).heap[k]? = w.heap[k]? := by
  unfold World.freeze
  rw [if_neg (by decide)]
  refine ⟨?_, fun k hk => ?_⟩
  · simp only [Array.getElem?_modify]
    rw [if_pos trivial, h]
    obtain ⟨lo, hi⟩ := fr
    rfl
  · simp only [Array.getElem?_modify]
    rw [if_neg (by omega)]

theorem Inv.freezeOwn (inv : Inv w0 M0 g st a w) {gr b n : Nat} (hb : g.ω gr = some b) (hO : OwnB w b n) : Inv w0 M0 g st a (w.freeze ⟨b, n, none⟩ 1) := by
  obtain ⟨cs, T, fr, h1, h2, h3⟩ := hO
  obtain ⟨q1, q2⟩ := freeze_heap (n := n) h1
  have hm : ∀ b' o, memOf (w.freeze ⟨b, n, none⟩ 1) b' o = memOf w b' o := by
    intro b' o
    by_cases hbb : b' = b
    · subst hbb
      unfold memOf World.cell?
      rw [show (w.freeze ⟨b', n, none⟩ 1).heap[({ block := b', off := o } : Addr).block]? = _ from q1, show w.heap[({ block := b', off := o } : Addr).block]? = _ from h1]
    · exact memOf_of_heap (q2 b' hbb) o
  have ho : ∀ b' n', OwnB w b' n' → OwnB (w.freeze ⟨b, n, none⟩ 1) b' n' := by
    intro b' n' h
    by_cases hbb : b' = b
    · subst hbb
      obtain ⟨cs', T', fr', h1', h2', h3'⟩ := h
      rw [h1] at h1'
      simp at h1'
      obtain ⟨rfl, rfl, rfl⟩ := h1'
      refine ⟨cs, T, _, q1, h2', ?_⟩
      have hnn : n' = n := by omega
      subst hnn
      rcases h3 with rfl | rfl
      · right; simp
      · right; simp
    · exact OwnB.of_heap (q2 b' hbb) h
  have hsz : (w.freeze ⟨b, n, none⟩ 1).heap.size = w.heap.size := by unfold World.freeze; rw [if_neg (by decide)]; simp
  have hβ : ∀ k ∈ g.β, (w.freeze ⟨b, n, none⟩ 1).heap[k]? = w.heap[k]? := fun k hk => q2 k (fun e => inv.ok.obox gr b hb (e ▸ hk))
  refine ⟨⟨inv.ok.le, inv.ok.old, fun b' o' u hu => ?_, inv.ok.bdist, inv.ok.odist, inv.ok.obox, fun k hk => ?_, fun r k hk => ?_, ?_, inv.ok.pre⟩, inv.rel.mono (fun c u hc => hc.same_mem hm ho) rfl hβ, inv.defs⟩
  · obtain ⟨h1, h2, h3⟩ := inv.ok.mem b' o' u hu
    exact ⟨by rw [hm]; exact h1, h2, h3⟩
  · rw [hsz]; exact inv.ok.newb k hk
  · rw [hsz]; exact inv.ok.newo r k hk
  · exact inv.ok.frame.at (inv.ok.newo _ _ hb).1 (by unfold World.freeze; rw [if_neg (by decide)]) (by unfold World.freeze; rw [if_neg (by decide)]) (by unfold World.freeze; rw [if_neg (by decide)]) (by omega) fun k hk => q2 k hk

theorem baOf_eq (xs : List Int) : baOf xs = strOfNums xs := rfl

theorem row_u8 {M0 M : Mem} {b o : Nat} {xs : List Int} (h : ∀ i y, xs[i]? = some y → (CL.int .u8).sees M0 M b (o + i * (CL.int .u8).size) y) : ∀ i, i < xs.length → M0 b (o + i) = some (.int .u8 (xs.getD i 0)) := by
  intro i hi
  have := h i _ (List.getElem?_eq_getElem hi)
  simp [CL.sees, CL.size] at this
  rw [this, List.getD_eq_getElem?_getD, List.getElem?_eq_getElem hi]
  rfl

theorem convertK_sound {P : Program} {d : Nat} {src dst : TypeId} {c : C} {k : KO} {r : Res} {x : Value} (inv : Inv w0 M0 g st a w) (hx : RelC g w c x) (h : convertK P d src dst c st k = some r) :
    OpGood P w0 M0 a w k r (convert src dst x) := by
  unfold convertK at h
  split at h
  · rename_i ds kd t k' n hs hd
    have : x = .int k' n := by cases t <;> exact hx.1
    subst this
    exact ⟨_, st, g, _, w, h, inv, vS_rel rfl, by simp [convert, run_underlying hs, run_underlying hd, Conv.intToInt]⟩
  · rename_i ds t s hs hd
    have : x = .string s := by cases t <;> exact hx.1
    subst this
    exact ⟨_, st, g, _, w, h, inv, vS_rel rfl, by simp [convert, run_underlying hs, run_underlying hd]⟩
  · rename_i e t nl xs hs hd
    split at h
    · rename_i he
      have hrun : (convert src dst x).run P w = .ok (.string (baOf xs)) w := by
        cases t with
        | ro =>
          rcases hx with ⟨_, rfl, rfl⟩ | ⟨_, b, o, cap, rfl, _, h3⟩
          · exact run_convert_bytes_nil w src e hs he 0 0 dst hd
          · exact run_convert_bytes_arg w src e hs he b o xs.length cap xs rfl (fun i hi => (inv.ok.mem _ _ _ (row_u8 h3 i hi)).1) dst hd
        | own gr s =>
          rcases hx with ⟨_, rfl, rfl⟩ | ⟨_, b, o, cap, n, q1, rfl, q3, q4, q5, q6, q7, q8⟩
          · exact run_convert_bytes_nil w src e hs he 0 0 dst hd
          · exact run_convert_bytes_arg w src e hs he b o xs.length cap xs rfl (fun i hi => row_u8 q8 i hi) dst hd
      exact ⟨_, st, g, _, w, h, inv, vS_rel rfl, hrun⟩
    · simp at h
  · rename_i e t xs hs hd
    split at h
    · rename_i he
      have hrun : (convert src dst x).run P w = .ok (.string (baOf xs)) w := by
        cases t with
        | ro =>
          obtain ⟨b, o, rfl, h3⟩ := hx
          exact run_convert_bytes_arg w src e hs he b o xs.length xs.length xs rfl (fun i hi => (inv.ok.mem _ _ _ (row_u8 h3 i hi)).1) dst hd
        | own gr s =>
          obtain ⟨b, o, n, q1, rfl, q3, q4, q5⟩ := hx
          exact run_convert_bytes_arg w src e hs he b o xs.length xs.length xs rfl (fun i hi => row_u8 q5 i hi) dst hd
      exact ⟨_, st, g, _, w, h, inv, vS_rel rfl, hrun⟩
    · simp at h
  · rename_i e t hs hd
    split at h
    · rename_i he
      have : x = .slice none 0 0 := by cases t <;> exact hx
      subst this
      exact ⟨_, st, g, _, w, h, inv, vS_rel rfl, run_convert_bytes_nil w src e hs he 0 0 dst hd⟩
    · simp at h
  · rename_i e t s hs hd
    split at h
    · rename_i he
      have : x = .string s := by cases t <;> exact hx.1
      subst this
      have hrun := run_bytes_of_string (P := P) w src dst e s hs hd he
      have inv1 := inv.freshen (grp d 0)
      have hk : Below w.heap.size w (w.drew.alloc (.cells (bytesRow s (grownCap w s.size 0 e)) e ((bytesRow s (grownCap w s.size 0 e)).size, (bytesRow s (grownCap w s.size 0 e)).size + 1))) := ((Below.refl _ _).drew).alloc (Nat.le_refl _) _
      have inv2 := inv1.newOwn hk (by simp) (grp d 0) (by simp [G.relinq])
      have hcap := grownCap_le (w := w) (need := s.size) (old := 0) (E := e)
      have hbs : (bytesRow s (grownCap w s.size 0 e)).size = grownCap w s.size 0 e := by
        unfold bytesRow
        simp only [Array.size_append, Array.size_map, Array.size_replicate]
        have : s.data.size = s.size := rfl
        omega
      have hh : (w.drew.alloc (.cells (bytesRow s (grownCap w s.size 0 e)) e ((bytesRow s (grownCap w s.size 0 e)).size, (bytesRow s (grownCap w s.size 0 e)).size + 1))).heap[w.heap.size]? = some (.cells (bytesRow s (grownCap w s.size 0 e)) e ((bytesRow s (grownCap w s.size 0 e)).size, (bytesRow s (grownCap w s.size 0 e)).size + 1)) := by
        show (w.heap.push _)[w.heap.size]? = _
        simp
      refine ⟨_, _, _, _, _, h, inv2, .inr ⟨rfl, w.heap.size, 0, _, _, by simp [G.add], by rw [ofBA_length], by rw [ofBA_length]; exact hcap, ⟨_, _, _, hh, rfl, .inr rfl⟩, by simp [CL.size, hbs], fun _ => rfl, fun l hl => by simp at hl, fun j y hy => ?_⟩, hrun⟩
      simp only [CL.sees, CL.size, Nat.mul_one, Nat.zero_add]
      unfold memOf World.cell?
      rw [show (w.drew.alloc (.cells (bytesRow s (grownCap w s.size 0 e)) e ((bytesRow s (grownCap w s.size 0 e)).size, (bytesRow s (grownCap w s.size 0 e)).size + 1))).heap[({ block := w.heap.size, off := j } : Addr).block]? = _ from hh]
      have hj : j < s.data.size := by
        have hj1 : j < (ofBA s).length := by
          rcases Nat.lt_or_ge j (ofBA s).length with h | h
          · exact h
          · simp [List.getElem?_eq_none h] at hy
        rw [ofBA_length] at hj1
        exact hj1
      show (bytesRow s _)[j]? = _
      unfold bytesRow
      rw [Array.getElem?_append_left (by simpa using hj)]
      unfold ofBA at hy
      rw [List.getElem?_map] at hy
      simp at hy
      obtain ⟨bt, hbt, rfl⟩ := hy
      simp [hbt]
    · simp at h
  · rename_i e0 e gr xs hs hd
    split at h
    · rename_i he
      have h1 := (bif_some h).1
      replace h := (bif_some h).2
      rcases hx with ⟨h0, _⟩ | ⟨_, b, o, cap, n, q1, rfl, q3, q4, q5, q6, q7, q8⟩
      · simp at h0
      · have h2 : src = dst := by simpa using h1
        subst h2
        have hrun : (convert src src (.slice (some ⟨b, o, none⟩) xs.length cap)).run P w = .ok (.slice (some ⟨b, o, none⟩) xs.length cap) (w.freeze ⟨b, n, none⟩ 1) := by
          obtain ⟨cs, T, fr, h5, h6, h7⟩ := q4
          have hsh : w.shape? b = some (T, n) := by
            unfold World.shape?
            rw [h5]
            simp [h6]
          simp [convert, run_underlying hd, run_underlying he, markStringish, hsh]
        refine ⟨_, st, g, _, _, h, inv.freezeOwn q1 q4, ?_, hrun⟩
        have inv' := inv.freezeOwn q1 q4
        obtain ⟨cs, T, fr, h5, h6, h7⟩ := q4
        obtain ⟨p1, p2⟩ := freeze_heap (w := w) (n := n) h5
        refine .inr ⟨rfl, b, o, cap, n, q1, rfl, q3, ⟨cs, T, _, p1, h6, ?_⟩, q5, q6, q7, fun j y hy => ?_⟩
        · rcases h7 with rfl | rfl
          · right; simp
          · right; simp
        · refine CL.sees_shift _ (Mem.le_refl _) (fun t _ u hu => ?_) (q8 j y hy)
          unfold memOf World.cell? at hu ⊢
          rw [show (w.freeze ⟨b, n, none⟩ 1).heap[({ block := b, off := o + j * (CL.int .u8).size + t } : Addr).block]? = _ from p1]
          rw [show w.heap[({ block := b, off := o + j * (CL.int .u8).size + t } : Addr).block]? = _ from h5] at hu
          exact hu
    · simp at h
  · simp at h

/-! ## min, max -/
theorem foldMM_sound {P : Program} {mx : Bool} (inv : Inv w0 M0 g st a w) : ∀ {xs : List Operand} {k k' : IntKind} {m n : Int}, foldMM mx st (k, m) xs = some (k', n) →
    ((xs.map a.eval).foldlM (if mx then Builtin.max2 else Builtin.min2) (.int k m)).run P w = .ok (.int k' n) w
  | [], k, k', m, n, h => by simp [foldMM] at h; obtain ⟨rfl, rfl⟩ := h; simp
  | x :: r, k, k', m, n, h => by
    simp only [foldMM] at h
    split at h
    · rename_i kb b hb
      have hv := getInt_rel inv hb
      have := foldMM_sound (P := P) inv h
      rw [List.map_cons, List.foldlM_cons, hv]
      cases mx with
      | true => simpa [Builtin.max2] using this
      | false => simpa [Builtin.min2] using this
    · simp at h

theorem extract_sound {P : Program} {xs : List S1} {i : Nat} {s : S1} {u : Value} (hx : RelS g w (.tup xs) u) (h : xs[i]? = some s) : ∃ v, (Instr.extract u i).run P w = .ok v w ∧ RelS1 g w s v := by
  obtain ⟨us, rfl, hx⟩ := hx
  obtain ⟨v, hv, hr⟩ := hx.get i s h
  have : us[i]? = some v := by rw [← hv]; simp
  exact ⟨v, by simp [Instr.extract, this], hr⟩
end
end Go.Proofs.Ythiaaaedfidnjaa.Am

namespace Go.Proofs.Ythiaaaedfidnjaa.Am
open Go Go.RowKit

def cellsOfS : S → List C
  | .s x => x.cells
  | .tup xs => cellsAll xs
  | .dead => []
def listOfS : S → List S1
  | .s x => [x]
  | .tup xs => xs
  | .dead => []

/-- Boxes that lead where they are said to. -/
def BoxesOK (g : G) (bx : List (List C)) (w : World) : Prop :=
  ∀ (b : Nat) (cs : List C), bx[b]? = some cs → ∃ (blk : Nat) (us : Array Value) (T : TypeId), g.β[b]? = some blk ∧ w.heap[blk]? = some (Obj.cells us T (0, 0)) ∧ All2 (RelC g w) cs us.toList
/-- What a call leaves. -/
def RetOK (B : Base) (M : Mem) (s : S) (bx : List (List C)) (v : Value) (w' : World) : Prop :=
  ∃ g', GOK B M g' w' ∧ RelS g' w' s v ∧ (groupsC (cellsOfS s)).Nodup ∧ BoxesOK g' bx w' ∧ bx.length = B.β.length ∧ noBox B.β.length (groupsC (cellsOfS s)) = true
/-- A call's beginning: what is known, and the blocks that are handed in. -/
structure Entry (g0 : G) (bx : List (List C)) (w : World) (F : Nat → Prop) : Prop where
  ok : GOK ⟨w, F, g0.β⟩ g0.M g0 w
  boxes : BoxesOK g0 bx w
  blen : g0.β.length = bx.length
def CallOK (V : Env) (callF : FuncId → List S1 → List (List C) → Tree) : Prop :=
  ∀ f as bx s bx', (callF f as bx).den = some (s, bx') → ∀ (args : Array Value) (w : World) (g0 : G) (F : Nat → Prop), Entry g0 bx w F →
    All2 (RelS1 g0 w) as args.toList → Calls V.P f args w fun e w' => ∃ v, e = .returned v ∧ RetOK ⟨w, F, g0.β⟩ g0.M s bx' v w'
theorem Entry.plain {w : World} {M : Mem} (hM : ∀ b o u, M b o = some u → memOf w b o = some u) : Entry ⟨M, [], fun _ => none⟩ [] w fun _ => False :=
  ⟨⟨Mem.le_refl _, fun _ _ _ h _ _ => h, fun b o u hu => ⟨hM b o u hu, by simp, by simp⟩, by simp, by simp, by simp, by simp, by simp, BelowF.refl _ _ _, ⟨[], rfl⟩⟩, fun _ _ h => by simp at h, rfl⟩

section
variable {w0 : Base} {M0 : Mem} {g : G} {st : St} {a : Act} {w : World}

theorem argC_rel {g1 : G} {M : Mem} {c c' : C} {u : Value} (hM : g1.M.le M) (h : RelC g1 w ⟨.ro, c.av⟩ u) (hc : argC c = some c') : RelC ⟨M, [], fun _ => none⟩ w c' u := by
  unfold argC at hc
  split at hc <;> simp at hc <;> subst hc
  · exact h
  · exact IsRow.mono h fun _ _ _ hs => CL.sees_mono _ hM hM hs
  · obtain ⟨b, o, rfl, h3⟩ := h
    exact .inr ⟨rfl, b, o, _, rfl, Nat.le_refl _, fun i y hy => CL.sees_mono _ hM hM (h3 i y hy)⟩
  · exact h
theorem argCs_rel {g1 : G} {M : Mem} (hM : g1.M.le M) : ∀ {cs cs' : List C} {us : List Value}, All2 (fun c u => RelC g1 w ⟨.ro, c.av⟩ u) cs us → argCs cs = some cs' → All2 (RelC ⟨M, [], fun _ => none⟩ w) cs' us
  | [], cs', us, h, hc => by
    simp [argCs] at hc
    subst hc
    match us, h with
    | [], _ => trivial
  | c :: cs, cs', us, h, hc => by
    simp only [argCs] at hc
    split at hc
    · simp at hc
    · rename_i a1 h1
      split at hc
      · simp at hc
      · rename_i l h2
        simp at hc
        subst hc
        match us, h with
        | u :: us, h => exact ⟨argC_rel hM h.1 h1, argCs_rel hM h.2 h2⟩
theorem argsOf_rel {g1 : G} {M : Mem} {gs : List Nat} (hM : g1.M.le M) (inv : Inv w0 M0 g st a w) (h7 : ∀ c u, RelC g w c u → RelC g1 w (gs.foldl (fun c g => C.relinq g c) c) u) :
    ∀ {xs : List Operand} {as : List S1}, argsOf st xs = some as → (∀ r ∈ groupsOf st xs, r ∈ gs) → All2 (RelS1 ⟨M, [], fun _ => none⟩ w) as (xs.map a.eval)
  | [], as, h, _ => by simp [argsOf] at h; subst h; trivial
  | x :: xs, as, h, hs => by
    simp only [argsOf] at h
    split at h
    · simp at h
    · rename_i s hsx
      split at h
      · simp at h
      · rename_i a1 h1
        split at h
        · simp at h
        · rename_i l hl
          simp at h
          subst h
          have hg : ∀ r ∈ groupsC s.cells, r ∈ gs := fun r hr => hs r (by simp only [groupsOf, List.mem_append]; left; rw [hsx]; exact hr)
          refine ⟨?_, argsOf_rel hM inv h7 hl fun r hr => hs r (by simp only [groupsOf, List.mem_append]; right; exact hr)⟩
          have hr := get1_rel inv hsx
          cases s with
          | c x0 =>
            simp only [argS1] at h1
            split at h1
            · rename_i c hc
              simp at h1
              subst h1
              have := All2.let_go h7 hg (cs := [x0]) (us := [a.eval x]) ⟨hr, trivial⟩
              exact argC_rel hM this.1 hc
            · simp at h1
          | agg xs0 =>
            simp only [argS1] at h1
            split at h1
            · rename_i l0 hc
              simp at h1
              subst h1
              obtain ⟨us, hu, hr⟩ := hr
              exact ⟨us, hu, argCs_rel hM (All2.let_go h7 hg hr) hc⟩
            · simp at h1

theorem freshAll_inv (d : Nat) : ∀ (n i : Nat) {g : G} {st : St}, Inv w0 M0 g st a w → ∃ g', Inv w0 M0 g' (freshAll d n i st) a w ∧ g'.β = g.β ∧ g.M.le g'.M ∧ (∀ j, i ≤ j → j < i + n → g'.ω (grp d j) = none) ∧ (∀ r b, g'.ω r = some b → g.ω r = some b)
  | 0, i, g, st, h => ⟨g, h, rfl, Mem.le_refl _, fun j h1 h2 => by omega, fun _ _ h => h⟩
  | n + 1, i, g, st, h => by
    have h1 := h.freshen (grp d i)
    obtain ⟨g', h2, h3, h4, h5, h6⟩ := freshAll_inv d n (i + 1) h1
    refine ⟨g', h2, h3, Mem.le_trans (relinq_le h _) h4, fun j hj1 hj2 => ?_, fun r b hr => ?_⟩
    · by_cases hij : j = i
      · subst hij
        cases hω : g'.ω (grp d j) with
        | none => rfl
        | some b =>
          have := h6 _ _ hω
          simp [G.relinq] at this
      · exact h5 j (by omega) (by omega)
    · have := h6 r b hr
      simp only [G.relinq] at this
      split at this
      · simp at this
      · exact this

/-! ## results -/
theorem ownOK_cons {c : C} {r : List C} (h : ownOK (c :: r) = true) : ((∃ q e nl xs, c = ⟨.own q none, .sl e nl xs⟩) ∨ (∃ t, c = ⟨t, .nilv⟩) ∨ (∃ t x, c = ⟨t, .v x⟩)) ∧ ownOK r = true := by
  obtain ⟨t, av⟩ := c
  cases av with
  | sl e nl xs =>
    cases t with
    | ro => simp [ownOK] at h
    | own q s =>
      cases s with
      | none => exact ⟨.inl ⟨q, e, nl, xs, rfl⟩, by simpa [ownOK] using h⟩
      | some l => simp [ownOK] at h
  | nilv => exact ⟨.inr (.inl ⟨t, rfl⟩), by cases t <;> simpa [ownOK] using h⟩
  | v x => exact ⟨.inr (.inr ⟨t, x, rfl⟩), by cases t <;> simpa [ownOK] using h⟩
  | slf e xs => cases t with | ro => simp [ownOK] at h | own q s => cases s <;> simp [ownOK] at h
  | ptr b o => cases t with | ro => simp [ownOK] at h | own q s => cases s <;> simp [ownOK] at h
  | fn f cs => cases t with | ro => simp [ownOK] at h | own q s => cases s <;> simp [ownOK] at h
  | ea e xs i o => cases t with | ro => simp [ownOK] at h | own q s => cases s <;> simp [ownOK] at h
  | junk => cases t with | ro => simp [ownOK] at h | own q s => cases s <;> simp [ownOK] at h
theorem allRo_cons {c : C} {r : List C} (h : allRo (c :: r) = true) : c = ⟨.ro, c.av⟩ ∧ allRo r = true := by
  obtain ⟨t, av⟩ := c
  cases t with
  | ro => exact ⟨rfl, by simpa [allRo] using h⟩
  | own q s => simp [allRo] at h

/-- How an element's cells stand to the cells that it was put together of. -/
def Corr (a b : AV) : Prop := a = b ∨ (b = .nilv ∧ ∃ e, a = .sl e true []) ∨ (∃ e xs, b = .slf e xs ∧ a = .sl e false xs)
theorem dec_corr : ∀ (e : CL) {l r : List AV} {x : e.den}, e.dec l = some (x, r) → r = l.drop e.size ∧ All2 Corr (e.enc x) (l.take e.size) := by
  intro e
  induction e with
  | int k =>
    intro l r x h
    simp only [CL.dec] at h
    unfold decInt at h
    split at h
    · split at h
      · rename_i hk
        simp at h
        obtain ⟨rfl, rfl⟩ := h
        have := ikBeq_eq hk
        subst this
        exact ⟨rfl, .inl rfl, trivial⟩
      · simp at h
    · simp at h
  | bool =>
    intro l r x h
    simp only [CL.dec] at h
    unfold decBool at h
    split at h
    · simp at h
      obtain ⟨rfl, rfl⟩ := h
      exact ⟨rfl, .inl rfl, trivial⟩
    · simp at h
  | str =>
    intro l r x h
    simp only [CL.dec] at h
    unfold decStr at h
    split at h
    · simp at h
      obtain ⟨rfl, rfl⟩ := h
      exact ⟨rfl, .inl rfl, trivial⟩
    · simp at h
  | sl e ih =>
    intro l r x h
    simp only [CL.dec] at h
    unfold decSl at h
    split at h
    · split at h
      · rename_i e' nl xs r' hk
        have := CL.beq_eq hk
        subst this
        simp only [Option.some.injEq, Prod.mk.injEq] at h
        obtain ⟨rfl, rfl⟩ := h
        exact ⟨rfl, .inl rfl, trivial⟩
      · simp at h
    · split at h
      · rename_i e' xs r' hk
        have := CL.beq_eq hk
        subst this
        simp only [Option.some.injEq, Prod.mk.injEq] at h
        obtain ⟨rfl, rfl⟩ := h
        exact ⟨rfl, .inr (.inr ⟨_, _, rfl, rfl⟩), trivial⟩
      · simp at h
    · simp only [Option.some.injEq, Prod.mk.injEq] at h
      obtain ⟨rfl, rfl⟩ := h
      exact ⟨rfl, .inr (.inl ⟨rfl, _, rfl⟩), trivial⟩
    · simp at h
  | cons c d ihc ihd =>
    intro l r x h
    simp only [CL.dec] at h
    split at h
    · simp at h
    · rename_i x1 l' hc
      split at h
      · simp at h
      · rename_i z l'' hd
        simp only [Option.some.injEq, Prod.mk.injEq] at h
        obtain ⟨rfl, rfl⟩ := h
        obtain ⟨rfl, h2⟩ := ihc hc
        obtain ⟨rfl, h4⟩ := ihd hd
        refine ⟨by simp [CL.size, List.drop_drop], ?_⟩
        simp only [CL.enc, CL.size]
        rw [List.take_add]
        exact h2.append h4

theorem RelC.corr {c : C} {b : AV} {u : Value} (hc : Corr b c.av) (hs : c.tag = .ro ∨ ∀ e xs, c.av ≠ .slf e xs) (h : RelC g w c u) : RelC g w ⟨c.tag, b⟩ u := by
  obtain ⟨t, av⟩ := c
  rcases hc with rfl | ⟨hb, e, rfl⟩ | ⟨e, xs, hb, rfl⟩
  · exact h
  · simp at hb
    subst hb
    have : u = .slice none 0 0 := by cases t <;> exact h
    subst this
    cases t with
    | ro => exact .inl ⟨rfl, rfl, rfl⟩
    | own q s => exact .inl ⟨rfl, rfl, rfl⟩
  · simp at hb
    subst hb
    rcases hs with hs | hs
    · simp at hs
      subst hs
      obtain ⟨b, o, rfl, h3⟩ := h
      exact .inr ⟨rfl, b, o, _, rfl, Nat.le_refl _, h3⟩
    · exact (hs _ _ rfl).elim

theorem sees_flat : ∀ (e : CL) {M0 M M' : Mem} {b o : Nat} {y : e.den}, e.flat = true → e.sees M0 M b o y → e.sees M0 M' b o y
  | .int _, _, _, _, _, _, _, _, h => h
  | .bool, _, _, _, _, _, _, _, h => h
  | .str, _, _, _, _, _, _, _, h => h
  | .sl _, _, _, _, _, _, _, hf, _ => by simp [CL.flat] at hf
  | .cons c r, _, _, _, _, _, _, hf, h => by
    simp [CL.flat] at hf
    exact ⟨sees_flat c hf.1 h.1, sees_flat r hf.2 h.2⟩
end
end Go.Proofs.Ythiaaaedfidnjaa.Am

namespace Go.Proofs.Ythiaaaedfidnjaa.Am
open Go Go.RowKit
section
variable {w0 : Base} {M0 : Mem} {g : G} {st : St} {a : Act} {w : World}

theorem enc_kinds : ∀ (e : CL) (x : e.den), ∀ a ∈ e.enc x, (∃ v, a = .v v) ∨ (∃ c nl xs, a = .sl c nl xs)
  | .int k, x, a, h => by simp [CL.enc] at h; subst h; exact .inl ⟨_, rfl⟩
  | .bool, x, a, h => by simp [CL.enc] at h; subst h; exact .inl ⟨_, rfl⟩
  | .str, x, a, h => by simp [CL.enc] at h; subst h; exact .inl ⟨_, rfl⟩
  | .sl e, x, a, h => by simp [CL.enc] at h; subst h; exact .inr ⟨_, _, _, rfl⟩
  | .cons c r, x, a, h => by
    simp [CL.enc] at h
    rcases h with h | h
    · exact enc_kinds c _ a h
    · exact enc_kinds r _ a h
theorem enc_noSl : ∀ (e : CL) (x : e.den), noSl e = true → ∀ a ∈ e.enc x, ∀ c nl xs, a ≠ .sl c nl xs
  | .int k, x, _, a, h, c, nl, xs => by simp [CL.enc] at h; subst h; simp
  | .bool, x, _, a, h, c, nl, xs => by simp [CL.enc] at h; subst h; simp
  | .str, x, _, a, h, c, nl, xs => by simp [CL.enc] at h; subst h; simp
  | .sl e, x, hn, a, h, c, nl, xs => by simp [noSl] at hn
  | .cons c r, x, hn, a, h, c', nl, xs => by
    simp [noSl] at hn
    simp [CL.enc] at h
    rcases h with h | h
    · exact enc_noSl c _ hn.1 a h c' nl xs
    · exact enc_noSl r _ hn.2 a h c' nl xs
theorem enc_apart : ∀ (e : CL) (x : e.den), apartCL e = true → ∀ a ∈ e.enc x, ∀ c nl xs, a = .sl c nl xs → c.flat = true
  | .int k, x, _, a, h, c, nl, xs, ha => by simp [CL.enc] at h; subst h; simp at ha
  | .bool, x, _, a, h, c, nl, xs, ha => by simp [CL.enc] at h; subst h; simp at ha
  | .str, x, _, a, h, c, nl, xs, ha => by simp [CL.enc] at h; subst h; simp at ha
  | .sl e, x, hn, a, h, c, nl, xs, ha => by
    simp [CL.enc] at h; subst h
    simp at ha
    obtain ⟨rfl, _⟩ := ha
    exact hn
  | .cons c r, x, hn, a, h, c', nl, xs, ha => by
    simp [apartCL] at hn
    simp [CL.enc] at h
    rcases h with h | h
    · exact enc_apart c _ hn.1 a h c' nl xs ha
    · exact enc_apart r _ hn.2 a h c' nl xs ha

theorem mkCells_rel {gN g' : G} {d : Nat} {own : Bool} : ∀ {as : List AV} {cs : List C} {us : List Value} {i : Nat}, All2 Corr as (avs cs) → All2 (RelC g' w) cs us →
    (∀ a ∈ as, (∃ v, a = .v v) ∨ (∃ c nl xs, a = .sl c nl xs)) → retTags own cs = true →
    (∀ j c r, cs[j]? = some c → c.tag = .own r none → gN.ω (grp d (i + j)) = g'.ω r) →
    (g'.M.le gN.M ∨ (∀ a ∈ as, ∀ c nl xs, a = .sl c nl xs → c.flat = true ∧ own = true)) → All2 (RelC gN w) (mkCells own d i as) us
  | [], cs, us, i, hc, hr, _, _, _, _ => by
    match cs, us, hc, hr with
    | [], [], _, _ => trivial
  | a :: as, [], us, i, hc, _, _, _, _, _ => hc.elim
  | a :: as, c :: cs, [], i, _, hr, _, _, _, _ => hr.elim
  | a :: as, c :: cs, u :: us, i, hc, hr, hk, ho, hω, hm => by
    have hrest : retTags own cs = true → All2 (RelC gN w) (mkCells own d (i + 1) as) us := fun ho' =>
      mkCells_rel hc.2 hr.2 (fun a ha => hk a (by simp [ha])) ho' (fun j c' r hj ht => by
        have := hω (j + 1) c' r (by simpa using hj) ht
        rwa [show i + (j + 1) = i + 1 + j by omega] at this) (hm.imp id fun h a ha => h a (by simp [ha]))
    rcases hk a (by simp) with ⟨v, rfl⟩ | ⟨e, nl, xs, rfl⟩
    · -- a plain cell
      have hv : RelC gN w ⟨.ro, .v v⟩ u := by
        rcases hc.1 with h | ⟨h, _, h2⟩ | ⟨_, _, _, h2⟩
        · have h1 := hr.1
          obtain ⟨t, av⟩ := c
          simp at h
          subst h
          cases t <;> exact h1
        · simp at h2
        · simp at h2
      refine ⟨hv, hrest ?_⟩
      cases own with
      | true => exact (ownOK_cons ho).2
      | false => exact (allRo_cons ho).2
    · cases own with
      | true =>
        obtain ⟨hc1, ho'⟩ := ownOK_cons ho
        refine ⟨?_, hrest ho'⟩
        rcases hc1 with ⟨q, e', nl', xs', rfl⟩ | ⟨t, rfl⟩ | ⟨t, x, rfl⟩
        · rcases hc.1 with h | ⟨h, _⟩ | ⟨_, _, h, _⟩
          · simp only [AV.sl.injEq] at h
            obtain ⟨rfl, h2, h3⟩ := h
            have h3 := eq_of_heq h3
            subst h2; subst h3
            rcases hr.1 with h | ⟨h0, b, o, cap, n, h1, h2, h3, h4, h5, h6, h7, h8⟩
            · exact .inl h
            · refine .inr ⟨h0, b, o, cap, n, ?_, h2, h3, h4, h5, h6, h7, fun j y hy => ?_⟩
              · have := hω 0 _ q rfl rfl
                rw [Nat.add_zero] at this
                rw [this]; exact h1
              · rcases hm with hm | hm
                · exact CL.sees_mono e hm (Mem.le_refl _) (h8 j y hy)
                · exact sees_flat e (hm _ (by simp) e nl xs rfl).1 (h8 j y hy)
          · simp at h
          · simp at h
        · have hu : u = .slice none 0 0 := by have := hr.1; cases t <;> exact this
          rcases hc.1 with h | ⟨_, e', h⟩ | ⟨_, _, h, _⟩
          · simp at h
          · simp only [AV.sl.injEq] at h
            obtain ⟨rfl, rfl, h3⟩ := h
            have h3 := eq_of_heq h3
            subst h3
            exact .inl ⟨rfl, rfl, hu⟩
          · simp at h
        · rcases hc.1 with h | ⟨h, _⟩ | ⟨_, _, h, _⟩
          · simp at h
          · simp at h
          · simp at h
      | false =>
        obtain ⟨hc1, ho'⟩ := allRo_cons ho
        refine ⟨?_, hrest ho'⟩
        rcases hm with hm | hm
        · have h1 : RelC g' w ⟨c.tag, .sl e nl xs⟩ u := RelC.corr hc.1 (.inl (by rw [hc1])) hr.1
          rw [show c.tag = .ro by rw [hc1]] at h1
          exact IsRow.mono h1 fun _ _ _ hs => CL.sees_mono e hm hm hs
        · have := (hm _ (by simp) e nl xs rfl).2
          simp at this

theorem S1.form {g : G} {agg : Bool} {s : S1} {u : Value} (hf : formOK agg s = true) (h : RelS1 g w s u) : (agg = false ∧ ∃ c, s = .c c ∧ RelC g w c u) ∨ (agg = true ∧ ∃ cs us, s = .agg cs ∧ u = .agg us ∧ All2 (RelC g w) cs us.toList) := by
  cases s with
  | c x => left; exact ⟨by simpa [formOK] using hf, x, rfl, h⟩
  | agg cs =>
    right
    obtain ⟨us, rfl, h⟩ := h
    exact ⟨by simpa [formOK] using hf, cs, us, rfl, rfl, h⟩

theorem toDen_some {own : Bool} {c : CL} {cs : List C} {x : c.den} (h : toDen own c cs = some x) : retTags own cs = true ∧ All2 Corr (c.enc x) (avs cs) ∧ cs.length = c.size := by
  unfold toDen at h
  have h1 := (bif_some h).1
  replace h := (bif_some h).2
  split at h
  · rename_i y hy
    simp at h
    subst h
    obtain ⟨h2, h3⟩ := dec_corr c hy
    have h4 := h3.length
    rw [CL.enc_length, List.length_take, avs_length] at h4
    have h5 : (avs cs).length ≤ c.size := by
      have := congrArg List.length h2
      simp at this
      omega
    rw [avs_length] at h5
    rw [List.take_of_length_le (by rw [avs_length]; exact h5)] at h3
    exact ⟨h1, h3, by omega⟩
  · simp at h

theorem mkS1_rel {gN g' : G} {d i : Nat} {agg own : Bool} {c : CL} {s : S1} {u : Value} {x : c.den} (hf : formOK agg s = true) (hd : toDen own c s.cells = some x) (hr : RelS1 g' w s u)
    (hω : ∀ j c r, s.cells[j]? = some c → c.tag = .own r none → gN.ω (grp d (i + j)) = g'.ω r)
    (hm : g'.M.le gN.M ∨ (noSl c || (own && apartCL c)) = true) : RelS1 gN w (mkS1 agg (mkCells own d i (c.enc x))) u := by
  obtain ⟨h1, h2, h3⟩ := toDen_some hd
  have hm' : g'.M.le gN.M ∨ (∀ a ∈ c.enc x, ∀ c' nl xs, a = .sl c' nl xs → c'.flat = true ∧ own = true) := by
    rcases hm with hm | hm
    · exact .inl hm
    · right
      intro a ha c' nl xs he
      simp at hm
      rcases hm with hm | hm
      · exact (enc_noSl c x hm a ha c' nl xs he).elim
      · exact ⟨enc_apart c x hm.2 a ha c' nl xs he, hm.1⟩
  rcases S1.form hf hr with ⟨rfl, c0, rfl, hr2⟩ | ⟨rfl, cs, us, rfl, rfl, hr2⟩
  · have := mkCells_rel (gN := gN) (d := d) (own := own) (i := i) h2 (us := [u]) ⟨hr2, trivial⟩ (enc_kinds c x) h1 hω hm'
    match hcs : mkCells own d i (c.enc x), this with
    | [c1], this => exact this.1
  · have := mkCells_rel (gN := gN) (d := d) (own := own) (i := i) h2 hr2 (enc_kinds c x) h1 hω hm'
    exact ⟨us, by simp [mkS1], this⟩

theorem mkRets_rel {gN g' : G} {d : Nat} : ∀ {rt : RT} {o : List Bool} {i : Nat} {ss : List S1} {us : List Value} {x : RT.den rt}, toDens rt o ss = some x → All2 (RelS1 g' w) ss us →
    (∀ j c r, (cellsAll ss)[j]? = some c → c.tag = .own r none → gN.ω (grp d (i + j)) = g'.ω r) → (g'.M.le gN.M ∨ apartRT rt o = true) → All2 (RelS1 gN w) (mkRets d rt o i x) us ∧ (mkRets d rt o i x).length = ss.length
  | [], o, i, ss, us, x, h, hr, _, _ => by
    match ss, us, h, hr with
    | [], [], _, _ => exact ⟨trivial, rfl⟩
  | [y], o, i, ss, us, x, h, hr, hω, hm => by
    match ss, h with
    | [s], h =>
      match us, hr with
      | [u], hr =>
        simp only [toDens] at h
        refine ⟨⟨mkS1_rel (bif_some h).1 (bif_some h).2 hr.1 (fun j c r hj ht => hω j c r (by simpa [cellsAll] using hj) ht) (hm.imp id fun hm => by simp [apartRT] at hm; simpa using hm), trivial⟩, rfl⟩
    | [], h => simp [toDens] at h
    | _ :: _ :: _, h => simp [toDens] at h
  | y :: z :: rt, o, i, ss, us, x, h, hr, hω, hm => by
    match ss, h with
    | [], h => simp [toDens] at h
    | s :: ss, h =>
      match us, hr with
      | u :: us, hr =>
        simp only [toDens] at h
        have hf := (bif_some h).1
        replace h := (bif_some h).2
        split at h
        · simp at h
        · rename_i x1 hx1
          split at h
          · simp at h
          · rename_i x2 hx2
            simp at h
            subst h
            have hlen := (toDen_some hx1).2.2
            have hmr : g'.M.le gN.M ∨ apartRT (z :: rt) o.tail = true := hm.imp id fun hm => by
              simp only [apartRT, Bool.and_eq_true] at hm ⊢
              exact hm.2
            have hm1 : g'.M.le gN.M ∨ (noSl y.2 || (headB o && apartCL y.2)) = true := hm.imp id fun hm => by
              simp only [apartRT, Bool.and_eq_true] at hm
              exact hm.1
            obtain ⟨h3, h4⟩ := mkRets_rel (gN := gN) (d := d) (i := i + y.2.size) hx2 hr.2 (fun j c r hj ht => by
              have := hω (y.2.size + j) c r (by
                simp only [cellsAll]
                rw [List.getElem?_append_right (by omega), hlen, show y.2.size + j - y.2.size = j by omega]
                exact hj) ht
              rwa [← Nat.add_assoc] at this) hmr
            refine ⟨⟨mkS1_rel hf hx1 hr.1 (fun j c r hj ht => hω j c r (by
              simp only [cellsAll]
              rw [List.getElem?_append_left]
              · exact hj
              · rcases Nat.lt_or_ge j s.cells.length with h | h
                · exact h
                · simp [List.getElem?_eq_none h] at hj) ht) hm1, h3⟩, by simp [mkRets, h4]⟩
end
end Go.Proofs.Ythiaaaedfidnjaa.Am

namespace Go.Proofs.Ythiaaaedfidnjaa.Am
open Go Go.RowKit
section
variable {w0 : Base} {M0 : Mem} {g : G} {st : St} {a : Act} {w : World}

theorem grp_inj {d i j : Nat} (h : grp d i = grp d j) : i = j := by simp [grp] at h; omega

/-- The group of a result's cell number q, at the callee's. -/
def calleeGrp (cs : List C) (q : Nat) : Option Nat := match cs[q]? with
  | some ⟨.own r none, _⟩ => some r
  | _ => none
theorem calleeGrp_some {cs : List C} {q r : Nat} (h : calleeGrp cs q = some r) : ∃ c, cs[q]? = some c ∧ c.tag = .own r none := by
  unfold calleeGrp at h
  split at h
  · rename_i r' av hq
    simp at h
    subst h
    exact ⟨_, hq, rfl⟩
  · simp at h
theorem calleeGrp_of {cs : List C} {q r : Nat} {c : C} (h : cs[q]? = some c) (ht : c.tag = .own r none) : calleeGrp cs q = some r := by
  obtain ⟨t, av⟩ := c
  simp at ht
  subst ht
  unfold calleeGrp
  rw [h]
theorem calleeGrp_inj : ∀ {cs : List C} {q q' r : Nat}, (groupsC cs).Nodup → calleeGrp cs q = some r → calleeGrp cs q' = some r → q = q'
  | [], q, q', r, _, h, _ => by simp [calleeGrp] at h
  | c :: cs, 0, 0, r, _, _, _ => rfl
  | c :: cs, q + 1, q' + 1, r, hn, h, h' => by
    have hn' : (groupsC cs).Nodup := by
      obtain ⟨t, av⟩ := c
      cases t with
      | ro => exact hn
      | own gr s => exact (List.nodup_cons.1 hn).2
    have h1 : calleeGrp cs q = some r := by simpa [calleeGrp] using h
    have h2 : calleeGrp cs q' = some r := by simpa [calleeGrp] using h'
    rw [calleeGrp_inj hn' h1 h2]
  | c :: cs, 0, q' + 1, r, hn, h, h' => by
    obtain ⟨c0, h1, h2⟩ := calleeGrp_some h
    simp at h1
    subst h1
    obtain ⟨c1, h3, h4⟩ := calleeGrp_some h'
    simp at h3
    obtain ⟨t, av⟩ := c
    simp at h2
    subst h2
    exact ((List.nodup_cons.1 hn).1 (mem_groupsC (List.mem_of_getElem? h3) h4)).elim
  | c :: cs, q + 1, 0, r, hn, h, h' => by
    obtain ⟨c0, h1, h2⟩ := calleeGrp_some h'
    simp at h1
    subst h1
    obtain ⟨c1, h3, h4⟩ := calleeGrp_some h
    simp at h3
    obtain ⟨t, av⟩ := c
    simp at h2
    subst h2
    exact ((List.nodup_cons.1 hn).1 (mem_groupsC (List.mem_of_getElem? h3) h4)).elim

open Classical in
/-- The caller's ghost behind a call: the callee's arrays that came back, under the caller's names. -/
noncomputable def G.joined (gF g' : G) (d n : Nat) (cs : List C) : G :=
  { gF with ω := fun z => if h : ∃ q, q < n ∧ z = grp d q then (calleeGrp cs h.choose).bind g'.ω else gF.ω z }
theorem joined_grp {gF g' : G} {d n q : Nat} {cs : List C} (hq : q < n) : (gF.joined g' d n cs).ω (grp d q) = (calleeGrp cs q).bind g'.ω := by
  unfold G.joined
  have h : ∃ q', q' < n ∧ grp d q = grp d q' := ⟨q, hq, rfl⟩
  simp only [dif_pos h]
  rw [← grp_inj h.choose_spec.2]
theorem joined_other {gF g' : G} {d n z : Nat} {cs : List C} (h : ¬ ∃ q, q < n ∧ z = grp d q) : (gF.joined g' d n cs).ω z = gF.ω z := by
  unfold G.joined
  simp only [dif_neg h]

theorem Inv.joined {gF g' : G} {M : Mem} {w1 w' : World} {d n : Nat} {cs : List C} (inv : Inv w0 M0 gF st a w') (hg : GOK (Base.of w1) M g' w') (hold : ∀ r b, gF.ω r = some b → b < w1.heap.size) (hβ : ∀ b ∈ gF.β, b < w1.heap.size)
    (hM : ∀ b o u, gF.M b o = some u → b < w1.heap.size ∨ g'.M b o = some u) (hfree : ∀ q, q < n → gF.ω (grp d q) = none) (hnd : (groupsC cs).Nodup) (hw : w0.w.heap.size ≤ w1.heap.size) :
    Inv w0 M0 (gF.joined g' d n cs) st a w' := by
  have hcase : ∀ z b, (gF.joined g' d n cs).ω z = some b → (gF.ω z = some b ∧ ¬ ∃ q, q < n ∧ z = grp d q) ∨ ∃ q r, q < n ∧ z = grp d q ∧ calleeGrp cs q = some r ∧ g'.ω r = some b := by
    intro z b hz
    by_cases h : ∃ q, q < n ∧ z = grp d q
    · obtain ⟨q, hq, rfl⟩ := h
      rw [joined_grp hq] at hz
      cases hr : calleeGrp cs q with
      | none => rw [hr] at hz; simp at hz
      | some r => rw [hr] at hz; exact .inr ⟨q, r, hq, rfl, hr, hz⟩
    · rw [joined_other h] at hz
      exact .inl ⟨hz, h⟩
  have hnew : ∀ r b, g'.ω r = some b → w1.heap.size ≤ b ∧ b < w'.heap.size := fun r b h => ⟨(hg.newo r b h).1.resolve_right fun h => h, (hg.newo r b h).2⟩
  refine ⟨⟨inv.ok.le, inv.ok.old, fun b o u hu => ?_, inv.ok.bdist, fun z z' b hz hz' => ?_, fun z b hz => ?_, inv.ok.newb, fun z b hz => ?_, inv.ok.frame, inv.ok.pre⟩, inv.rel.mono (g := gF) (g' := gF.joined g' d n cs) (fun c u hc => ?_) rfl fun _ _ => rfl, inv.defs⟩
  · obtain ⟨h1, h2, h3⟩ := inv.ok.mem b o u hu
    refine ⟨h1, h2, fun z hz => ?_⟩
    rcases hcase z b hz with ⟨h4, _⟩ | ⟨q, r, _, _, _, h4⟩
    · exact h3 z h4
    · rcases hM b o u hu with h5 | h5
      · have := (hnew r b h4).1; omega
      · exact (hg.mem b o u h5).2.2 r h4
  · rcases hcase z b hz with ⟨h4, h4'⟩ | ⟨q, r, hq, rfl, hr, h4⟩
    · rcases hcase z' b hz' with ⟨h5, _⟩ | ⟨q', r', hq', rfl, hr', h5⟩
      · exact inv.ok.odist z z' b h4 h5
      · have := hold z b h4
        have := (hnew r' b h5).1
        omega
    · rcases hcase z' b hz' with ⟨h5, _⟩ | ⟨q', r', hq', rfl, hr', h5⟩
      · have := hold z' b h5
        have := (hnew r b h4).1
        omega
      · have := hg.odist r r' b h4 h5
        subst this
        rw [calleeGrp_inj hnd hr hr']
  · rcases hcase z b hz with ⟨h4, _⟩ | ⟨q, r, _, _, _, h4⟩
    · exact inv.ok.obox z b h4
    · intro hb
      have := hβ b hb
      have := (hnew r b h4).1
      omega
  · rcases hcase z b hz with ⟨h4, _⟩ | ⟨q, r, _, _, _, h4⟩
    · exact inv.ok.newo z b h4
    · have := hnew r b h4
      exact ⟨.inl (Nat.le_trans hw this.1), this.2⟩
  · refine RelC.mono (g := gF) (g' := gF.joined g' d n cs) (Mem.le_refl _) (fun _ _ h => h) (fun r b hr => ?_) (fun _ _ _ => rfl) hc
    have : ¬ ∃ q, q < n ∧ r = grp d q := by
      rintro ⟨q, hq, rfl⟩
      rw [hfree q hq] at hr
      simp at hr
    rw [joined_other this]
    exact hr

/-- More is known of memory. -/
theorem Inv.moreMem {M' : Mem} (inv : Inv w0 M0 g st a w) (hM : g.M.le M') (hold : ∀ b o u, M' b o = some u → b < w0.w.heap.size → ¬ w0.F b → M0 b o = some u)
    (hmem : ∀ b o u, M' b o = some u → memOf w b o = some u ∧ b ∉ g.β ∧ ∀ r, g.ω r ≠ some b) : Inv w0 M0 { g with M := M' } st a w :=
  ⟨⟨Mem.le_trans inv.ok.le hM, hold, hmem, inv.ok.bdist, inv.ok.odist, inv.ok.obox, inv.ok.newb, inv.ok.newo, inv.ok.frame, inv.ok.pre⟩,
    inv.rel.mono (fun c u hc => hc.mono (g := g) (g' := { g with M := M' }) hM (fun _ _ h => h) (fun _ _ h => h) fun _ _ _ => rfl) rfl fun _ _ => rfl, inv.defs⟩

theorem getRet_some {rt : RT} {o : List Bool} {R : Option Res} {x : RT.den rt} (h : getRet rt o R = some x) : ∃ s bx, R = some (s, bx) ∧ toDens rt o (listOfS s) = some x ∧
    ((∃ y, s = .s y) ∨ (∃ ys, s = .tup ys ∧ ys.length ≠ 1)) := by
  unfold getRet at h
  split at h
  · simp at h
  · rename_i y bx
    exact ⟨_, bx, rfl, h, .inl ⟨y, rfl⟩⟩
  · rename_i ys bx
    exact ⟨_, bx, rfl, (bifn_some h).2, .inr ⟨ys, rfl, fun e => by have := (bifn_some h).1; simp [e] at this⟩⟩
  · simp at h

theorem mkRet_rel {gN g' : G} {d : Nat} {rt : RT} {o : List Bool} {x : RT.den rt} {s : S} {v : Value} (hx : toDens rt o (listOfS s) = some x) (hs : (∃ y, s = .s y) ∨ (∃ ys, s = .tup ys ∧ ys.length ≠ 1)) (hr : RelS g' w s v)
    (hω : ∀ j c r, (cellsOfS s)[j]? = some c → c.tag = .own r none → gN.ω (grp d j) = g'.ω r) (hm : g'.M.le gN.M ∨ apartRT rt o = true) : RelS gN w (mkRet d rt o x) v := by
  rcases hs with ⟨y, rfl⟩ | ⟨ys, rfl, hne⟩
  · obtain ⟨h1, h2⟩ := mkRets_rel (gN := gN) (d := d) (i := 0) hx (us := [v]) ⟨hr, trivial⟩ (fun j c r hj ht => by rw [Nat.zero_add]; exact hω j c r (by simpa [listOfS, cellsAll, cellsOfS] using hj) ht) hm
    unfold mkRet
    match hl : mkRets d rt o 0 x, h1, h2 with
    | [s'], h1, _ => exact h1.1
    | [], _, h2 => simp [listOfS] at h2
    | _ :: _ :: _, _, h2 => simp [listOfS] at h2
  · obtain ⟨us, rfl, hr⟩ := hr
    obtain ⟨h1, h2⟩ := mkRets_rel (gN := gN) (d := d) (i := 0) hx hr (fun j c r hj ht => by rw [Nat.zero_add]; exact hω j c r hj ht) hm
    unfold mkRet
    match hl : mkRets d rt o 0 x, h1, h2 with
    | [s'], _, h2 => simp [listOfS] at h2; exact (hne h2.symm).elim
    | [], h1, _ => exact ⟨us, rfl, h1⟩
    | _ :: _ :: _, h1, _ => exact ⟨us, rfl, h1⟩

theorem cellsAll_len : ∀ {rt : RT} {o : List Bool} {ss : List S1} {x : RT.den rt}, toDens rt o ss = some x → (cellsAll ss).length = RT.cells rt
  | [], o, ss, x, h => by
    match ss, h with
    | [], _ => rfl
  | [y], o, ss, x, h => by
    match ss, h with
    | [s], h =>
      simp only [toDens] at h
      have := (toDen_some (bif_some h).2).2.2
      simp [cellsAll, RT.cells, this]
    | [], h => simp [toDens] at h
    | _ :: _ :: _, h => simp [toDens] at h
  | y :: z :: rt, o, ss, x, h => by
    match ss, h with
    | [], h => simp [toDens] at h
    | s :: ss, h =>
      simp only [toDens] at h
      replace h := (bif_some h).2
      split at h
      · simp at h
      · rename_i x1 hx1
        split at h
        · simp at h
        · rename_i x2 hx2
          have h1 := (toDen_some hx1).2.2
          have h2 := cellsAll_len hx2
          simp [cellsAll, RT.cells] at h2 ⊢
          omega
theorem anyTrue_false : ∀ {o : List Bool}, anyTrue o = false → ∀ o', (∃ k, o' = o.drop k) → headB o' = false
  | [], _, o', ⟨k, hk⟩ => by subst hk; simp [headB]
  | b :: o, h, o', ⟨k, hk⟩ => by
    simp [anyTrue] at h
    subst hk
    cases k with
    | zero => simp [headB, h.1]
    | succ k => exact anyTrue_false h.2 _ ⟨k, by simp⟩
theorem allRo_tag : ∀ {cs : List C} {c : C}, allRo cs = true → c ∈ cs → c.tag = .ro
  | c' :: cs, c, h, hc => by
    obtain ⟨h1, h2⟩ := allRo_cons h
    simp at hc
    rcases hc with rfl | hc
    · rw [h1]
    · exact allRo_tag h2 hc
theorem noOwn_ro : ∀ {rt : RT} {o : List Bool} {ss : List S1} {x : RT.den rt}, (∀ k, headB (o.drop k) = false) → toDens rt o ss = some x → ∀ c ∈ cellsAll ss, c.tag = .ro
  | [], o, ss, x, _, h => by
    match ss, h with
    | [], _ => intro c hc; simp [cellsAll] at hc
  | [y], o, ss, x, ho, h => by
    match ss, h with
    | [s], h =>
      simp only [toDens] at h
      have := (toDen_some (bif_some h).2).1
      rw [show headB o = false from by simpa using ho 0] at this
      intro c hc
      simp [cellsAll] at hc
      exact allRo_tag this hc
    | [], h => simp [toDens] at h
    | _ :: _ :: _, h => simp [toDens] at h
  | y :: z :: rt, o, ss, x, ho, h => by
    match ss, h with
    | [], h => simp [toDens] at h
    | s :: ss, h =>
      simp only [toDens] at h
      replace h := (bif_some h).2
      split at h
      · simp at h
      · rename_i x1 hx1
        split at h
        · simp at h
        · rename_i x2 hx2
          have h1 := (toDen_some hx1).1
          rw [show headB o = false from by simpa using ho 0] at h1
          have h2 := noOwn_ro (fun k => by have := ho (k + 1); rwa [show o.drop (k + 1) = o.tail.drop k by simp] at this) hx2
          intro c hc
          simp only [cellsAll, List.mem_append] at hc
          rcases hc with hc | hc
          · exact allRo_tag h1 hc
          · exact h2 c hc

theorem callK_sound {V : Env} {callF : FuncId → List S1 → List (List C) → Tree} (hcall : CallOK V callF) {d : Nat} {f : FuncId} {xs : List Operand} {k : KO} {r : Res} (inv : Inv w0 M0 g st a w) (h : callK V callF d f xs st k = some r) :
    (∃ fn, V.P.funcs[f]? = some fn ∧ fn.name ≠ "runtime.NumGoroutine" ∧ fn.body.isNone = false) ∧
    ∀ args : Array Value, args.toList = xs.map a.eval → Calls V.P f args w fun e w' => ∃ s st' g' u, e = .returned u ∧ k s st' = some r ∧ Inv w0 M0 g' st' a w' ∧ RelS g' w' s u := by
  unfold callK at h
  split at h
  · simp at h
  · rename_i fn hfn
    have hnb := (bifn_some h).1
    replace h := (bifn_some h).2
    simp at hnb
    refine ⟨⟨fn, hfn, hnb.1, by simpa using hnb.2⟩, fun args hargs => ?_⟩
    split at h
    · simp at h
    · rename_i rt hrt
      split at h
      · simp at h
      · rename_i as has
        rw [Tree.go_eq] at h
        split at h
        · simp at h
        · rename_i x hx
          obtain ⟨s, bx, hR, hden, hsf⟩ := getRet_some hx
          obtain ⟨g1, inv1, hβ1, hM1, h5, h6, h7, h8⟩ := relinqAll_inv (groupsOf st xs) inv
          -- the state behind the call, still in the world ahead of it
          have hst : ∃ gB Mc, Inv w0 M0 gB (freshAll d (bif anyTrue (V.sig f) then RT.cells rt else 0) 0 (bif apartRT rt (V.sig f) then st else relinqAll (groupsOf st xs) st)) a w ∧
              (∀ j, j < (bif anyTrue (V.sig f) then RT.cells rt else 0) → gB.ω (grp d j) = none) ∧ g1.M.le Mc ∧ (∀ b o u, Mc b o = some u → memOf w b o = some u ∧ b ∉ gB.β ∧ (apartRT rt (V.sig f) = false → ∀ r, gB.ω r ≠ some b)) ∧ (apartRT rt (V.sig f) = true ∨ Mc = gB.M) := by
            cases hap : apartRT rt (V.sig f) with
            | true =>
              obtain ⟨gB, q1, q2, q3, q4, q5⟩ := freshAll_inv d (bif anyTrue (V.sig f) then RT.cells rt else 0) 0 inv
              refine ⟨gB, g1.M, q1, fun j hj => q4 j (Nat.zero_le _) (by omega), Mem.le_refl _, fun b o u hu => ⟨(inv1.ok.mem b o u hu).1, ?_, fun h => by simp at h⟩, .inl rfl⟩
              rw [q2, ← hβ1]
              exact (inv1.ok.mem b o u hu).2.1
            | false =>
              obtain ⟨gB, q1, q2, q3, q4, q5⟩ := freshAll_inv d (bif anyTrue (V.sig f) then RT.cells rt else 0) 0 inv1
              exact ⟨gB, gB.M, q1, fun j hj => q4 j (Nat.zero_le _) (by omega), q3, fun b o u hu => ⟨(q1.ok.mem b o u hu).1, (q1.ok.mem b o u hu).2.1, fun _ => (q1.ok.mem b o u hu).2.2⟩, .inr rfl⟩
          obtain ⟨gB, Mc, invB, hfree, hMc, hmemc, hcase⟩ := hst
          have hargsR := argsOf_rel hMc inv h7 has (fun r hr => hr)
          rw [← hargs] at hargsR
          refine (hcall f as [] s bx hR args w _ _ (Entry.plain fun b o u hu => (hmemc b o u hu).1) hargsR).mono ?_
          rintro e w' ⟨v, rfl, g', hg', hr', hnd, _⟩
          have hbel : Below w.heap.size w w' := hg'.frame.below
          have invB' := invB.grow hbel
          have hMB : ∀ b o u, gB.M b o = some u → b < w.heap.size := fun b o u hu => mem_lt invB.ok hu
          -- the ghost with the callee's memory, where something of it came back
          have hF : ∃ gF, Inv w0 M0 gF (freshAll d (bif anyTrue (V.sig f) then RT.cells rt else 0) 0 (bif apartRT rt (V.sig f) then st else relinqAll (groupsOf st xs) st)) a w' ∧ gF.β = gB.β ∧ gF.ω = gB.ω ∧
              (∀ b o u, gF.M b o = some u → b < w.heap.size ∨ g'.M b o = some u) ∧ (g'.M.le gF.M ∨ apartRT rt (V.sig f) = true) := by
            rcases hcase with hap | rfl
            · exact ⟨gB, invB', rfl, rfl, fun b o u hu => .inl (hMB b o u hu), .inr hap⟩
            · refine ⟨{ gB with M := g'.M }, invB'.moreMem hg'.le (fun b o u hu hb hF => ?_) (fun b o u hu => ⟨(hg'.mem b o u hu).1, ?_, ?_⟩), rfl, rfl, fun b o u hu => .inr hu, .inl (Mem.le_refl _)⟩
              · exact invB.ok.old b o u (hg'.old b o u hu (Nat.lt_of_lt_of_le hb inv.ok.frame.size) fun h => h) hb hF
              · intro hb
                have hlt := (invB.ok.newb b hb).2
                exact (hmemc b o u (hg'.old b o u hu hlt fun h => h)).2.1 hb
              · intro r hr
                have hlt := (invB.ok.newo r b hr).2
                exact (invB.ok.mem b o u (hg'.old b o u hu hlt fun h => h)).2.2 r hr
          obtain ⟨gF, invF, hFβ, hFω, hFM, hFm⟩ := hF
          have invN := invF.joined (cs := cellsOfS s) (d := d) (n := (bif anyTrue (V.sig f) then RT.cells rt else 0)) hg' (fun r b hr => (invB.ok.newo r b (hFω ▸ hr)).2) (fun b hb => (invB.ok.newb b (hFβ ▸ hb)).2)
            hFM (fun q hq => by rw [hFω]; exact hfree q hq) hnd inv.ok.frame.size
          refine ⟨_, _, _, v, rfl, h, invN, mkRet_rel hden hsf hr' (fun j c r hj ht => ?_) hFm⟩
          have hcl : (cellsOfS s).length = RT.cells rt := by
            rcases hsf with ⟨y, rfl⟩ | ⟨ys, rfl, _⟩
            · have := cellsAll_len hden
              simpa [listOfS, cellsAll, cellsOfS] using this
            · exact cellsAll_len hden
          have hjn : j < RT.cells rt := by
            rcases Nat.lt_or_ge j (cellsOfS s).length with h | h
            · omega
            · simp [List.getElem?_eq_none h] at hj
          cases hat : anyTrue (V.sig f) with
          | true =>
            rw [cond_true, joined_grp hjn, calleeGrp_of hj ht]
            rfl
          | false =>
            have h9 := noOwn_ro (fun k => anyTrue_false hat _ ⟨k, rfl⟩) hden c (by
              rcases hsf with ⟨y, rfl⟩ | ⟨ys, rfl, _⟩
              · have := List.mem_of_getElem? hj
                simpa [listOfS, cellsAll, cellsOfS] using this
              · exact List.mem_of_getElem? hj)
            rw [h9] at ht
            simp at ht
end
end Go.Proofs.Ythiaaaedfidnjaa.Am

namespace Go.Proofs.Ythiaaaedfidnjaa.Am
open Go Go.RowKit

/-! # Calls that are handed boxes -/
theorem grpB_odd (b o : Nat) : grpB b o % 2 = 1 := by unfold grpB; omega
theorem grpB_div {b o : Nat} (h : o < 64) : grpB b o / 128 = b := by unfold grpB; omega
theorem grp_even (d i : Nat) : grp d i % 2 = 0 := by unfold grp; omega
theorem memN_in : ∀ {l : List Nat} {n : Nat}, memN n l = true ↔ n ∈ l
  | [], n => by simp [memN]
  | m :: r, n => by
    simp only [memN, Bool.or_eq_true, List.mem_cons, memN_in (l := r)]
    constructor
    · rintro (h | h)
      · exact .inl (Nat.eq_of_beq_eq_true h)
      · exact .inr h
    · rintro (h | h)
      · subst h
        exact .inl (Nat.beq_refl _)
      · exact .inr h
theorem dupN_inj : ∀ {ps : List Nat} {i j b : Nat}, dupN ps = false → ps[i]? = some b → ps[j]? = some b → i = j
  | [], i, j, b, _, h, _ => by simp at h
  | p :: r, 0, 0, b, _, _, _ => rfl
  | p :: r, 0, j + 1, b, hd, h, h' => by
    simp only [dupN, Bool.or_eq_false_iff] at hd
    simp at h
    subst h
    have := memN_in.2 (List.mem_of_getElem? (show r[j]? = some p by simpa using h'))
    rw [hd.1] at this
    exact absurd this (by simp)
  | p :: r, i + 1, 0, b, hd, h, h' => by
    simp only [dupN, Bool.or_eq_false_iff] at hd
    simp at h'
    subst h'
    have := memN_in.2 (List.mem_of_getElem? (show r[i]? = some p by simpa using h))
    rw [hd.1] at this
    exact absurd this (by simp)
  | p :: r, i + 1, j + 1, b, hd, h, h' => by
    simp only [dupN, Bool.or_eq_false_iff] at hd
    have := dupN_inj (b := b) hd.2 (show r[i]? = some b by simpa using h) (show r[j]? = some b by simpa using h')
    omega
theorem idxOf_get : ∀ {ps : List Nat} {b i : Nat}, b ∈ ps → ∃ j, idxOf ps b i = i + j ∧ ps[j]? = some b
  | p :: r, b, i, h => by
    simp only [idxOf]
    cases hb : Nat.beq p b with
    | true =>
      have e := Nat.eq_of_beq_eq_true hb
      subst e
      exact ⟨0, rfl, rfl⟩
    | false =>
      have hne : b ≠ p := fun e => by rw [e, Nat.beq_refl] at hb; simp at hb
      rcases List.mem_cons.1 h with h | h
      · exact absurd h hne
      · obtain ⟨j, h1, h2⟩ := idxOf_get (i := i + 1) h
        exact ⟨j + 1, by rw [cond_false, h1]; omega, by simpa using h2⟩
section
variable {w0 : Base} {M0 : Mem} {g : G} {st : St} {a : Act} {w : World}

theorem reBox_rel {gA gB : G} {b i : Nat} (hM : gA.M.le gB.M) (hω : ∀ o, o < 64 → gB.ω (grpB i o) = gA.ω (grpB b o)) : ∀ {o : Nat} {cs cs' : List C} {us : List Value}, reBox b i o cs = some cs' → All2 (RelC gA w) cs us → All2 (RelC gB w) cs' us
  | o, [], cs', us, h, hr => by
    simp [reBox] at h
    subst h
    match us, hr with
    | [], _ => trivial
  | o, c :: cs, cs', u :: us, h, hr => by
    simp only [reBox] at h
    split at h
    · simp at h
    · rename_i c' hc
      split at h
      · simp at h
      · rename_i l hl
        simp at h
        subst h
        refine ⟨?_, reBox_rel hM hω hl hr.2⟩
        have h1 := hr.1
        split at hc
        · rename_i t x
          simp at hc
          subst hc
          cases t <;> exact h1
        · rename_i t
          simp at hc
          subst hc
          cases t <;> exact h1
        · simp at hc
          subst hc
          exact IsRow.mono h1 fun _ _ _ hs => CL.sees_mono _ hM hM hs
        · rename_i gr e nl xs
          have hcond := (bif_some hc).1
          replace hc := (bif_some hc).2
          simp only [Bool.and_eq_true] at hcond
          have hg := Nat.eq_of_beq_eq_true hcond.1
          have ho := Nat.le_of_ble_eq_true hcond.2
          subst hg
          injection hc with hc
          subst hc
          rcases h1 with h1 | ⟨h0, b', o', cap, n, q1, q2, q3, q4, q5, q6, q7, q8⟩
          · exact .inl h1
          · refine .inr ⟨h0, b', o', cap, n, by rw [hω o ho]; exact q1, q2, q3, q4, q5, q6, q7, fun j y hy => CL.sees_mono e hM (Mem.le_refl (memOf w)) (q8 j y hy)⟩
        · simp at hc
  | o, _ :: _, _, [], _, hr => hr.elim

theorem boxesIn_get {st : St} : ∀ {ps : List Nat} {i : Nat} {bxs : List (List C)}, boxesIn st i ps = some bxs → bxs.length = ps.length ∧ ∀ j b, ps[j]? = some b → ∃ cs cs', st.bx[b]? = some cs ∧ bxs[j]? = some cs' ∧ reBox b (i + j) 0 cs = some cs'
  | [], i, bxs, h => by
    simp [boxesIn] at h
    subst h
    exact ⟨rfl, fun j b hb => by simp at hb⟩
  | p :: r, i, bxs, h => by
    simp only [boxesIn] at h
    split at h
    · simp at h
    · rename_i cs hcs
      split at h
      · simp at h
      · rename_i cs' hcs'
        split at h
        · simp at h
        · rename_i l hl
          simp at h
          subst h
          obtain ⟨h1, h2⟩ := boxesIn_get hl
          refine ⟨by simp [h1], fun j b hb => ?_⟩
          cases j with
          | zero =>
            simp at hb
            subst hb
            exact ⟨cs, cs', hcs, rfl, hcs'⟩
          | succ j =>
            obtain ⟨c1, c2, q1, q2, q3⟩ := h2 j b (by simpa using hb)
            exact ⟨c1, c2, q1, by simpa using q2, by rw [show i + (j + 1) = i + 1 + j by omega]; exact q3⟩
theorem boxesOut_get : ∀ {ps : List Nat} {st st' : St} {i : Nat} {bxs : List (List C)}, dupN ps = false → boxesOut st i ps bxs = some st' →
    st'.sl = st.sl ∧ st'.bx.length = st.bx.length ∧ (∀ b, b ∉ ps → st'.bx[b]? = st.bx[b]?) ∧ ∀ j b cs', ps[j]? = some b → st'.bx[b]? = some cs' → ∃ cs, bxs[j]? = some cs ∧ reBox (i + j) b 0 cs = some cs'
  | [], st, st', i, bxs, _, h => by
    cases bxs with
    | nil =>
      simp [boxesOut] at h
      subst h
      exact ⟨rfl, rfl, fun _ _ => rfl, fun j b cs' hb => by simp at hb⟩
    | cons x r => simp [boxesOut] at h
  | p :: r, st, st', i, [], _, h => by simp [boxesOut] at h
  | p :: r, st, st', i, cs :: l, hd, h => by
    simp only [boxesOut] at h
    split at h
    · simp at h
    · rename_i c1 hc1
      have hd' := hd
      simp only [dupN, Bool.or_eq_false_iff] at hd
      obtain ⟨h1, h2, h3, h4⟩ := boxesOut_get hd.2 h
      have hp : p ∉ r := fun hp => by
        have := memN_in.2 hp
        rw [hd.1] at this
        simp at this
      refine ⟨h1, by rw [h2]; simp, fun b hb => ?_, fun j b cs' hb hcs' => ?_⟩
      · simp only [List.mem_cons, not_or] at hb
        rw [h3 b hb.2]
        simp only [List.getElem?_set]
        rw [if_neg (fun e => hb.1 e.symm)]
      · cases j with
        | zero =>
          simp at hb
          subst hb
          rw [h3 p hp] at hcs'
          simp only [List.getElem?_set_self'] at hcs'
          cases hx : st.bx[p]? with
          | none => rw [hx] at hcs'; simp at hcs'
          | some y =>
            rw [hx] at hcs'
            simp at hcs'
            subst hcs'
            exact ⟨cs, rfl, hc1⟩
        | succ j =>
          obtain ⟨c2, q1, q2⟩ := h4 j b cs' (by simpa using hb) hcs'
          exact ⟨c2, by simpa using q1, by rw [show i + (j + 1) = i + 1 + j by omega]; exact q2⟩

theorem argsP_rel {g1 g0 : G} {gs : List Nat} {ps : List Nat} (hM : g1.M.le g0.M) (inv : Inv w0 M0 g st a w) (h7 : ∀ c u, RelC g w c u → RelC g1 w (gs.foldl (fun c g => C.relinq g c) c) u)
    (hβ : ∀ (j b blk : Nat), ps[j]? = some b → g.β[b]? = some blk → g0.β[j]? = some blk) :
    ∀ {xs : List Operand} {as : List S1}, (∀ b ∈ ptrArgs st xs, b ∈ ps) → argsP st ps xs = some as → (∀ r ∈ groupsOf st xs, r ∈ gs) → All2 (RelS1 g0 w) as (xs.map a.eval)
  | [], as, _, h, _ => by simp [argsP] at h; subst h; trivial
  | x :: xs, as, hps, h, hs => by
    have up : ∀ {s : S1} {u : Value}, RelS1 ⟨g0.M, [], fun _ => none⟩ w s u → RelS1 g0 w s u := fun hr =>
      RelS1.mono (fun c u hc => RelC.mono (g := ⟨g0.M, [], fun _ => none⟩) (g' := g0) (Mem.le_refl _) (fun i b hb => by simp at hb) (fun r b hb => by simp at hb) (fun _ _ hb => by simp at hb) hc) hr
    simp only [argsP] at h
    split at h
    · simp at h
    · rename_i s hsx
      split at h
      · simp at h
      · rename_i a1 h1
        split at h
        · simp at h
        · rename_i l hl
          simp at h
          subst h
          have hr := get1_rel inv hsx
          have hps' : ∀ b ∈ ptrArgs st xs, b ∈ ps := fun b hb => hps b (by
            simp only [ptrArgs, hsx]
            split
            · exact List.mem_cons_of_mem _ hb
            · exact hb)
          refine ⟨?_, argsP_rel hM inv h7 hβ hps' hl fun r hr => hs r (by simp only [groupsOf, List.mem_append]; right; exact hr)⟩
          split at h1
          · rename_i b hb
            injection h1 with h1
            subst h1
            have hbps : b ∈ ps := hps b (by simp only [ptrArgs, hsx, hb]; exact List.mem_cons_self)
            unfold ptrOf at hb
            split at hb
            · rename_i t b'
              simp at hb
              subst hb
              obtain ⟨j, hj1, hj2⟩ := idxOf_get (i := 0) hbps
              have hr' : ∃ blk, g.β[b']? = some blk ∧ a.eval x = .pointer (some ⟨blk, 0, none⟩) := by cases t <;> exact hr
              obtain ⟨blk, hb1, hb2⟩ := hr'
              exact ⟨blk, by rw [hj1, Nat.zero_add]; exact hβ j b' blk hj2 hb1, hb2⟩
            · simp at hb
          · have hg : ∀ r ∈ groupsC s.cells, r ∈ gs := fun r hr => hs r (by simp only [groupsOf, List.mem_append]; left; rw [hsx]; exact hr)
            cases s with
            | c x0 =>
              simp only [argS1] at h1
              split at h1
              · rename_i c hc
                simp at h1
                subst h1
                have := All2.let_go h7 hg (cs := [x0]) (us := [a.eval x]) ⟨hr, trivial⟩
                exact up (s := .c c) (argC_rel (M := g0.M) hM this.1 hc)
              · simp at h1
            | agg xs0 =>
              simp only [argS1] at h1
              split at h1
              · rename_i l0 hc
                simp at h1
                subst h1
                obtain ⟨us, hu, hr⟩ := hr
                exact up (s := .agg l0) ⟨us, hu, argCs_rel (M := g0.M) hM (All2.let_go h7 hg hr) hc⟩
              · simp at h1

/-- The callee's ghost. -/
def G.lend (g : G) (ps : List Nat) : G :=
  ⟨g.M, ps.map fun b => g.β.getD b 0, fun z => if z % 2 = 1 ∧ z / 128 < ps.length then g.ω (128 * ps.getD (z / 128) 0 + z % 128) else none⟩
def lentF (g : G) (ps : List Nat) (b : Nat) : Prop := b ∈ (g.lend ps).β ∨ ∃ z, (g.lend ps).ω z = some b
theorem lend_ω {ps : List Nat} {z b : Nat} (h : (g.lend ps).ω z = some b) : ∃ p, ps[z / 128]? = some p ∧ z % 2 = 1 ∧ g.ω (128 * p + z % 128) = some b := by
  simp only [G.lend] at h
  split at h
  · rename_i hz
    refine ⟨ps.getD (z / 128) 0, ?_, hz.1, h⟩
    rw [List.getD_eq_getElem?_getD, List.getElem?_eq_getElem hz.2]
    rfl
  · simp at h
theorem lend_grp {ps : List Nat} {i p o : Nat} (hp : ps[i]? = some p) (ho : o < 64) : (g.lend ps).ω (grpB i o) = g.ω (grpB p o) := by
  have hi := (List.getElem?_eq_some_iff.1 hp).1
  simp only [G.lend]
  rw [if_pos ⟨grpB_odd _ _, by rw [grpB_div ho]; exact hi⟩, grpB_div ho, List.getD_eq_getElem?_getD, hp]
  congr 1
  show 128 * p + grpB i o % 128 = grpB p o
  unfold grpB
  omega
theorem lend_ok {ps : List Nat} (inv : Inv w0 M0 g st a w) (hd : dupN ps = false) (hβ : ∀ b ∈ ps, b < g.β.length) : GOK ⟨w, lentF g ps, (g.lend ps).β⟩ g.M (g.lend ps) w := by
  have hmem : ∀ b, b ∈ (g.lend ps).β → b ∈ g.β := fun b hb => by
    simp only [G.lend, List.mem_map] at hb
    obtain ⟨p, hp, rfl⟩ := hb
    rw [List.getD_eq_getElem?_getD, List.getElem?_eq_getElem (hβ p hp)]
    exact List.getElem_mem _
  have hget : ∀ (i b : Nat), (g.lend ps).β[i]? = some b → ∃ p, ps[i]? = some p ∧ g.β[p]? = some b := fun i b h => by
    simp only [G.lend, List.getElem?_map, Option.map_eq_some_iff] at h
    obtain ⟨p, hp, rfl⟩ := h
    refine ⟨p, hp, ?_⟩
    have := hβ p (List.mem_of_getElem? hp)
    rw [List.getD_eq_getElem?_getD, List.getElem?_eq_getElem this]
    rfl
  refine ⟨Mem.le_refl _, fun _ _ _ h _ _ => h, fun b o u hu => ⟨(inv.ok.mem b o u hu).1, fun h => (inv.ok.mem b o u hu).2.1 (hmem b h), fun r h => ?_⟩, fun i j b hi hj => ?_, fun r r' b hr hr' => ?_, fun r b hr hb => ?_, fun b hb => ⟨.inr (.inl hb), (inv.ok.newb b (hmem b hb)).2⟩, fun r b hr => ⟨.inr (.inr ⟨r, hr⟩), ?_⟩, BelowF.refl _ _ _, ⟨[], (List.append_nil _).symm⟩⟩
  · obtain ⟨p, _, _, h3⟩ := lend_ω h
    exact (inv.ok.mem b o u hu).2.2 _ h3
  · obtain ⟨p, h1, h2⟩ := hget i b hi
    obtain ⟨p', h1', h2'⟩ := hget j b hj
    have := inv.ok.bdist p p' b h2 h2'
    subst this
    exact dupN_inj hd h1 h1'
  · obtain ⟨p, h1, h2, h3⟩ := lend_ω hr
    obtain ⟨p', h1', h2', h3'⟩ := lend_ω hr'
    have e := inv.ok.odist _ _ _ h3 h3'
    have hp : p = p' := by omega
    subst hp
    have := dupN_inj hd h1 h1'
    omega
  · obtain ⟨p, h1, h2, h3⟩ := lend_ω hr
    exact inv.ok.obox _ _ h3 (hmem b hb)
  · obtain ⟨p, h1, h2, h3⟩ := lend_ω hr
    exact (inv.ok.newo _ _ h3).2

open Classical in
/-- The caller's ghost behind a call that was lent boxes. -/
noncomputable def G.back (g g' : G) (ps : List Nat) (d n : Nat) (cs : List C) : G :=
  ⟨g'.M, g.β, fun z => if z % 2 = 1 ∧ z / 128 ∈ ps then g'.ω (128 * idxOf ps (z / 128) 0 + z % 128) else
    if h : ∃ q, q < n ∧ z = grp d q then (calleeGrp cs h.choose).bind g'.ω else g.ω z⟩
theorem back_box {g g' : G} {ps : List Nat} {d n : Nat} {cs : List C} {i p o : Nat} (hd : dupN ps = false) (hp : ps[i]? = some p) (ho : o < 64) : (g.back g' ps d n cs).ω (grpB p o) = g'.ω (grpB i o) := by
  have hm := List.mem_of_getElem? hp
  unfold G.back
  rw [show (⟨g'.M, g.β, _⟩ : G).ω (grpB p o) = _ from rfl]
  simp only
  rw [if_pos ⟨grpB_odd _ _, by rw [grpB_div ho]; exact hm⟩, grpB_div ho]
  obtain ⟨j, h1, h2⟩ := idxOf_get (i := 0) hm
  rw [h1, Nat.zero_add, dupN_inj hd h2 hp]
  congr 1
  unfold grpB
  omega
theorem back_res {g g' : G} {ps : List Nat} {d n q : Nat} {cs : List C} (hq : q < n) : (g.back g' ps d n cs).ω (grp d q) = (calleeGrp cs q).bind g'.ω := by
  unfold G.back
  have h : ∃ q', q' < n ∧ grp d q = grp d q' := ⟨q, hq, rfl⟩
  simp only
  rw [if_neg (fun h => by have := grp_even d q; omega), dif_pos h]
  rw [← grp_inj h.choose_spec.2]
theorem back_case {g g' : G} {ps : List Nat} {d n z b : Nat} {cs : List C} (h : (g.back g' ps d n cs).ω z = some b) :
    (∃ i, ps[i]? = some (z / 128) ∧ z % 2 = 1 ∧ g'.ω (128 * i + z % 128) = some b) ∨ (∃ q r, q < n ∧ z = grp d q ∧ calleeGrp cs q = some r ∧ g'.ω r = some b) ∨ (¬ (z % 2 = 1 ∧ z / 128 ∈ ps) ∧ g.ω z = some b) := by
  by_cases hz : z % 2 = 1 ∧ z / 128 ∈ ps
  · left
    unfold G.back at h
    simp only at h
    rw [if_pos hz] at h
    obtain ⟨j, h1, h2⟩ := idxOf_get (i := 0) hz.2
    exact ⟨j, h2, hz.1, by rw [h1, Nat.zero_add] at h; exact h⟩
  · right
    by_cases hq : ∃ q, q < n ∧ z = grp d q
    · obtain ⟨q, hq, rfl⟩ := hq
      rw [back_res hq] at h
      cases hr : calleeGrp cs q with
      | none => rw [hr] at h; simp at h
      | some r => rw [hr] at h; exact .inl ⟨q, r, hq, rfl, hr, h⟩
    · unfold G.back at h
      simp only at h
      rw [if_neg hz, dif_neg hq] at h
      exact .inr ⟨hz, h⟩
theorem noBox_get : ∀ {l : List Nat} {np r : Nat}, noBox np l = true → r ∈ l → r % 2 = 0 ∨ np ≤ r / 128
  | x :: l, np, r, h, hr => by
    simp only [noBox, Bool.and_eq_true, Bool.or_eq_true] at h
    rcases List.mem_cons.1 hr with rfl | hr
    · rcases h.1 with h | h
      · exact .inl (Nat.eq_of_beq_eq_true h)
      · exact .inr (Nat.le_of_ble_eq_true h)
    · exact noBox_get h.2 hr
theorem calleeGrp_mem {cs : List C} {q r : Nat} (h : calleeGrp cs q = some r) : r ∈ groupsC cs := by
  obtain ⟨c, h1, h2⟩ := calleeGrp_some h
  have hm := List.mem_of_getElem? h1
  clear h1 h
  induction cs with
  | nil => simp at hm
  | cons x l ih =>
    rcases List.mem_cons.1 hm with rfl | hm'
    · obtain ⟨t, av⟩ := c
      simp at h2
      subst h2
      exact List.mem_cons_self
    · obtain ⟨t, av⟩ := x
      cases t with
      | ro => exact ih hm'
      | own q s => exact List.mem_cons_of_mem _ (ih hm')

theorem killB_rel {g g2 : G} {w w' : World} {ps : List Nat} (hM : g.M.le g2.M) (hβ : g2.β = g.β) (hω : ∀ r b, ¬ (r % 2 = 1 ∧ r / 128 ∈ ps) → g.ω r = some b → g2.ω r = some b ∧ w'.heap[b]? = w.heap[b]?)
    (c : C) (u : Value) (h : RelC g w c u) : RelC g2 w' (C.killB ps c) u := by
  have hone := RelC.one h
  obtain ⟨t, av⟩ := c
  cases t with
  | ro =>
    have h' : RelC ⟨g.M, g.β, fun _ => none⟩ w ⟨.ro, av⟩ u := by
      cases av <;> exact h
    exact RelC.mono (g := ⟨g.M, g.β, fun _ => none⟩) hM (fun i b hb => by rw [hβ]; exact hb) (fun r b hb => by simp at hb) (fun r b hb => by simp at hb) h'
  | own q s =>
    simp only [C.killB]
    by_cases hq : q % 2 = 1 ∧ q / 128 ∈ ps
    · have : (Nat.beq (q % 2) 1 && memN (q / 128) ps) = true := by
        rw [hq.1, memN_in.2 hq.2]
        rfl
      rw [this]
      exact hone
    · have : (Nat.beq (q % 2) 1 && memN (q / 128) ps) = false := by
        cases hb : (Nat.beq (q % 2) 1 && memN (q / 128) ps) with
        | false => rfl
        | true =>
          simp only [Bool.and_eq_true] at hb
          exact absurd ⟨Nat.eq_of_beq_eq_true hb.1, memN_in.1 hb.2⟩ hq
      rw [this]
      -- of this group alone
      have h' : RelC ⟨g.M, g.β, fun z => if z = q then g.ω q else none⟩ w ⟨.own q s, av⟩ u := by
        cases av with
        | sl e nl xs =>
          rcases h with h | ⟨h0, b, o, cap, n, q1, q2⟩
          · exact .inl h
          · exact .inr ⟨h0, b, o, cap, n, by simpa using q1, q2⟩
        | slf e xs =>
          obtain ⟨b, o, n, q1, q2⟩ := h
          exact ⟨b, o, n, by simpa using q1, q2⟩
        | ea e xs i o =>
          obtain ⟨y, b, o', n, q0, q1, q2⟩ := h
          exact ⟨y, b, o', n, q0, by simpa using q1, q2⟩
        | v x => exact h
        | nilv => exact h
        | ptr b o => exact h
        | fn f caps => exact h
        | junk => exact h
      refine RelC.mono (g := ⟨g.M, g.β, fun z => if z = q then g.ω q else none⟩) hM (fun i b hb => by rw [hβ]; exact hb) (fun r b hb => ?_) (fun r b hb => ?_) h'
      · simp only at hb
        split at hb
        · rename_i e
          subst e
          exact (hω _ _ hq hb).1
        · simp at hb
      · simp only at hb
        split at hb
        · rename_i e
          subst e
          exact (hω _ _ hq hb).2
        · simp at hb

theorem callPK_sound {V : Env} {callF : FuncId → List S1 → List (List C) → Tree} (hcall : CallOK V callF) {d : Nat} {f : FuncId} {xs : List Operand} {k : KO} {r : Res} (inv : Inv w0 M0 g st a w) (h : callPK V callF d f xs st k = some r) :
    (∃ fn, V.P.funcs[f]? = some fn ∧ fn.name ≠ "runtime.NumGoroutine" ∧ fn.body.isNone = false) ∧
    ∀ args : Array Value, args.toList = xs.map a.eval → Calls V.P f args w fun e w' => ∃ s st' g' u, e = .returned u ∧ k s st' = some r ∧ Inv w0 M0 g' st' a w' ∧ RelS g' w' s u := by
  unfold callPK at h
  split at h
  · simp at h
  · rename_i fn hfn
    have hnb := (bifn_some h).1
    replace h := (bifn_some h).2
    simp at hnb
    refine ⟨⟨fn, hfn, hnb.1, by simpa using hnb.2⟩, fun args hargs => ?_⟩
    split at h
    · simp at h
    · rename_i rt hrt
      have hdup := (bifn_some h).1
      replace h := (bifn_some h).2
      generalize hps : ptrArgs st xs = ps at h hdup
      split at h
      · simp at h
      · rename_i as has
        split at h
        · simp at h
        · rename_i bxs hbxs
          rw [Tree.go_eq] at h
          split at h
          · simp at h
          · rename_i s bxs' hR
            split at h
            · simp at h
            · rename_i x hx
              split at h
              · simp at h
              · rename_i st' hout
                obtain ⟨s', bx', hR', hden, hsf⟩ := getRet_some hx
                simp only [Option.some.injEq, Prod.mk.injEq] at hR'
                obtain ⟨rfl, rfl⟩ := hR'
                generalize hn : (bif anyTrue (V.sig f) then RT.cells rt else 0) = n at *
                obtain ⟨gr, invr, hβr, hMr, h5, h6, h7, h8⟩ := relinqAll_inv (groupsOf st xs) inv
                obtain ⟨g1, inv1, q2, q3, q4, q5⟩ := freshAll_inv d n 0 invr
                have hβ1 : g1.β = g.β := q2.trans hβr
                generalize hst1 : freshAll d n 0 (relinqAll (groupsOf st xs) st) = st1 at *
                obtain ⟨hbl, hbg⟩ := boxesIn_get hbxs
                have hpβ : ∀ b ∈ ps, b < g1.β.length := fun b hb => by
                  obtain ⟨j, hj⟩ := List.getElem?_of_mem hb
                  obtain ⟨cs, _, h1, _⟩ := hbg j b hj
                  rw [inv1.rel.blen]
                  exact (List.getElem?_eq_some_iff.1 h1).1
                have hlend := lend_ok inv1 hdup hpβ
                have hget : ∀ (i p : Nat), ps[i]? = some p → ∃ blk, g1.β[p]? = some blk ∧ (g1.lend ps).β[i]? = some blk := fun i p hp => by
                  have hlt := hpβ p (List.mem_of_getElem? hp)
                  refine ⟨g1.β[p], List.getElem?_eq_getElem hlt, ?_⟩
                  simp only [G.lend, List.getElem?_map, hp, Option.map_some, Option.some.injEq]
                  rw [List.getD_eq_getElem?_getD, List.getElem?_eq_getElem hlt]
                  rfl
                have hboxes : BoxesOK (g1.lend ps) bxs w := by
                  intro i cs' hcs'
                  have hi : i < ps.length := by
                    rw [← hbl]
                    exact (List.getElem?_eq_some_iff.1 hcs').1
                  have hp : ps[i]? = some ps[i] := List.getElem?_eq_getElem hi
                  obtain ⟨cs, c2, h1, h2, h3⟩ := hbg i _ hp
                  rw [hcs'] at h2
                  injection h2 with h2
                  subst h2
                  obtain ⟨blk, us, T, r1, r2, r3⟩ := inv1.rel.boxes _ cs h1
                  obtain ⟨blk', r4, r5⟩ := hget i _ hp
                  rw [r1] at r4
                  injection r4 with r4
                  subst r4
                  refine ⟨blk, us, T, r5, r2, reBox_rel (gA := g1) (gB := g1.lend ps) (Mem.le_refl _) (fun o ho => ?_) h3 r3⟩
                  rw [Nat.zero_add]
                  exact lend_grp hp ho
                have hblen : (g1.lend ps).β.length = bxs.length := by
                  rw [hbl]
                  simp [G.lend]
                have hargsR : All2 (RelS1 (g1.lend ps) w) as (xs.map a.eval) :=
                  argsP_rel (g1 := gr) (g0 := g1.lend ps) (gs := groupsOf st xs) (ps := ps) q3 inv h7 (fun j b blk hj hb => by
                    obtain ⟨blk', r1, r2⟩ := hget j b hj
                    rw [hβ1, hb] at r1
                    injection r1 with r1
                    rw [r1]
                    exact r2) (fun b hb => by rw [← hps]; exact hb) has (fun r hr => hr)
                rw [← hargs] at hargsR
                refine (hcall f as bxs s bxs' hR args w (g1.lend ps) (lentF g1 ps) ⟨hlend, hboxes, hblen⟩ hargsR).mono ?_
                rintro e w' ⟨v, rfl, g', hg', hr', hnd, hbx', hbl', hnb'⟩
                have hnps : (g1.lend ps).β.length = ps.length := by simp [G.lend]
                change bxs'.length = (g1.lend ps).β.length at hbl'
                change noBox (g1.lend ps).β.length _ = true at hnb'
                rw [hnps] at hbl' hnb'
                obtain ⟨tβ, hβ'⟩ := hg'.pre
                change g'.β = (g1.lend ps).β ++ tβ at hβ'
                have hfr := hg'.frame
                -- what isn't lent
                have Fβ : ∀ b, lentF g1 ps b → b ∈ g1.β ∨ ∃ z, g1.ω z = some b := fun b hb => by
                  rcases hb with hb | ⟨z, hz⟩
                  · left
                    obtain ⟨i, hi⟩ := List.getElem?_of_mem hb
                    simp only [G.lend, List.getElem?_map, Option.map_eq_some_iff] at hi
                    obtain ⟨p, hp, rfl⟩ := hi
                    have hlt := hpβ p (List.mem_of_getElem? hp)
                    rw [List.getD_eq_getElem?_getD, List.getElem?_eq_getElem hlt]
                    exact List.getElem_mem _
                  · obtain ⟨p, _, _, h3⟩ := lend_ω hz
                    exact .inr ⟨_, h3⟩
                have Fnew : ∀ b, lentF g1 ps b → w0.New b := fun b hb => by
                  rcases Fβ b hb with h | ⟨z, h⟩
                  · exact (inv1.ok.newb b h).1
                  · exact (inv1.ok.newo z b h).1
                have nF : ∀ b, ¬ w0.F b → b < w0.w.heap.size → ¬ lentF g1 ps b := fun b h1 h2 hb => by
                  rcases Fnew b hb with h | h
                  · omega
                  · exact h1 h
                have lentM : ∀ b o u, g1.M b o = some u → ¬ lentF g1 ps b := fun b o u hu hb => by
                  rcases Fβ b hb with h | ⟨z, h⟩
                  · exact (inv1.ok.mem b o u hu).2.1 h
                  · exact (inv1.ok.mem b o u hu).2.2 z h
                have otherBox : ∀ (j blk : Nat), g1.β[j]? = some blk → j ∉ ps → ¬ lentF g1 ps blk := fun j blk hj hjp hb => by
                  rcases hb with hb | ⟨z, hz⟩
                  · obtain ⟨i, hi⟩ := List.getElem?_of_mem hb
                    simp only [G.lend, List.getElem?_map, Option.map_eq_some_iff] at hi
                    obtain ⟨p, hp, he⟩ := hi
                    have hpm := List.mem_of_getElem? hp
                    have hlt := hpβ p hpm
                    rw [List.getD_eq_getElem?_getD, List.getElem?_eq_getElem hlt] at he
                    have := inv1.ok.bdist p j blk (by rw [List.getElem?_eq_getElem hlt, ← he]; rfl) hj
                    subst this
                    exact hjp hpm
                  · obtain ⟨p, _, _, h3⟩ := lend_ω hz
                    exact inv1.ok.obox _ _ h3 (List.mem_of_getElem? hj)
                have otherGrp : ∀ z b, g1.ω z = some b → ¬ (z % 2 = 1 ∧ z / 128 ∈ ps) → ¬ lentF g1 ps b := fun z b hz hzp hb => by
                  rcases hb with hb | ⟨z', hz'⟩
                  · rcases Fβ b (.inl hb) with h | ⟨z', h⟩
                    · exact inv1.ok.obox z b hz h
                    · obtain ⟨i, hi⟩ := List.getElem?_of_mem hb
                      simp only [G.lend, List.getElem?_map, Option.map_eq_some_iff] at hi
                      obtain ⟨p, hp, he⟩ := hi
                      have hlt := hpβ p (List.mem_of_getElem? hp)
                      rw [List.getD_eq_getElem?_getD, List.getElem?_eq_getElem hlt] at he
                      exact inv1.ok.obox z b hz (by rw [← he]; exact List.getElem_mem _)
                  · obtain ⟨p, h1, h2, h3⟩ := lend_ω hz'
                    have := inv1.ok.odist _ _ _ hz h3
                    exact hzp ⟨by omega, by rw [show z / 128 = p by omega]; exact List.mem_of_getElem? h1⟩
                have kept : ∀ b, b < w.heap.size → ¬ lentF g1 ps b → w'.heap[b]? = w.heap[b]? := fun b h1 h2 => hfr.block b h1 h2
                have oldM : ∀ b o u, g'.M b o = some u → b < w.heap.size → ¬ lentF g1 ps b → g1.M b o = some u := fun b o u hu h1 h2 => hg'.old b o u hu h1 h2
                have newG : ∀ z b, g'.ω z = some b → w.heap.size ≤ b ∨ lentF g1 ps b := fun z b hz => (hg'.newo z b hz).1
                have hle : g1.M.le g'.M := hg'.le
                have hsz : w.heap.size ≤ w'.heap.size := hfr.size
                -- names in the callee
                have nameA : ∀ (i z : Nat), ps[i]? = some (z / 128) → z % 2 = 1 → (128 * i + z % 128) % 2 = 1 ∧ (128 * i + z % 128) / 128 = i := fun i z _ hz => by omega
                have hω : ∀ r b, ¬ (r % 2 = 1 ∧ r / 128 ∈ ps) → g1.ω r = some b → (g1.back g' ps d n (cellsOfS s)).ω r = some b ∧ w'.heap[b]? = w.heap[b]? := fun r b hr hb => by
                  refine ⟨?_, kept b (inv1.ok.newo r b hb).2 (otherGrp r b hb hr)⟩
                  unfold G.back
                  simp only
                  rw [if_neg hr, dif_neg]
                  · exact hb
                  · rintro ⟨q, hq, rfl⟩
                    rw [q4 q (Nat.zero_le _) (by omega)] at hb
                    simp at hb
                obtain ⟨o1, o2, o3, o4⟩ := boxesOut_get hdup hout
                have ok2 : GOK w0 M0 (g1.back g' ps d n (cellsOfS s)) w' := by
                  refine ⟨Mem.le_trans inv1.ok.le hle, fun b o u hu hb hF => inv1.ok.old b o u (oldM b o u hu (Nat.lt_of_lt_of_le hb inv1.ok.frame.size) (nF b hF hb)) hb hF, fun b o u hu => ?_, inv1.ok.bdist, fun z z' b hz hz' => ?_, fun z b hz hb => ?_, fun b hb => ⟨(inv1.ok.newb b hb).1, Nat.lt_of_lt_of_le (inv1.ok.newb b hb).2 hsz⟩, fun z b hz => ?_, ?_, inv1.ok.pre⟩
                  · obtain ⟨m1, m2, m3⟩ := hg'.mem b o u hu
                    refine ⟨m1, fun hb => ?_, fun z hz => ?_⟩
                    · obtain ⟨j, hj⟩ := List.getElem?_of_mem hb
                      have hj : g1.β[j]? = some b := hj
                      by_cases hjp : j ∈ ps
                      · obtain ⟨i, hi⟩ := List.getElem?_of_mem hjp
                        obtain ⟨blk, r1, r2⟩ := hget i j hi
                        rw [hj] at r1
                        injection r1 with r1
                        subst r1
                        exact m2 (by rw [hβ']; exact List.mem_append_left _ (List.mem_of_getElem? r2))
                      · exact (inv1.ok.mem b o u (oldM b o u hu (inv1.ok.newb b hb).2 (otherBox j b hj hjp))).2.1 hb
                    · rcases back_case hz with ⟨i, _, _, h3⟩ | ⟨q, r, _, _, _, h3⟩ | ⟨h2, h3⟩
                      · exact m3 _ h3
                      · exact m3 _ h3
                      · exact (inv1.ok.mem b o u (oldM b o u hu (inv1.ok.newo z b h3).2 (otherGrp z b h3 h2))).2.2 z h3
                  · have sep : ∀ y, g'.ω y = some b → ∀ z1, g1.ω z1 = some b → ¬ (z1 % 2 = 1 ∧ z1 / 128 ∈ ps) → False := fun y hy z1 h1 h2 => by
                      have h3 := (inv1.ok.newo z1 b h1).2
                      have h4 := otherGrp z1 b h1 h2
                      rcases newG y b hy with h5 | h5
                      · omega
                      · exact h4 h5
                    have boxRes : ∀ i q r, i < ps.length → calleeGrp (cellsOfS s) q = some r → ∀ m, m % 2 = 1 → m < 128 → 128 * i + m = r → False := fun i q r hi hr m hm hm2 he => by
                      rcases noBox_get hnb' (calleeGrp_mem hr) with h | h <;> omega
                    rcases back_case hz with ⟨i, h1, h2, h3⟩ | ⟨q, r, h1, h2, h3, h4⟩ | ⟨h1, h2⟩ <;> rcases back_case hz' with ⟨i', h1', h2', h3'⟩ | ⟨q', r', h1', h2', h3', h4'⟩ | ⟨h1', h2'⟩
                    · have e := hg'.odist _ _ _ h3 h3'
                      have hii : i = i' := by omega
                      subst hii
                      rw [h1] at h1'
                      injection h1' with h1'
                      omega
                    · have e := hg'.odist _ _ _ h3 h4'
                      exact (boxRes i q' r' (List.getElem?_eq_some_iff.1 h1).1 h3' (z % 128) (by omega) (by omega) e).elim
                    · exact (sep _ h3 z' h2' h1').elim
                    · have e := hg'.odist _ _ _ h4 h3'
                      exact (boxRes i' q r (List.getElem?_eq_some_iff.1 h1').1 h3 (z' % 128) (by omega) (by omega) e.symm).elim
                    · have e := hg'.odist _ _ _ h4 h4'
                      subst e
                      rw [h2, h2', calleeGrp_inj hnd h3 h3']
                    · exact (sep _ h4 z' h2' h1').elim
                    · exact (sep _ h3' z h2 h1).elim
                    · exact (sep _ h4' z h2 h1).elim
                    · exact inv1.ok.odist _ _ _ h2 h2'
                  · have viaG : ∀ y, g'.ω y = some b → False := fun y hy => by
                      obtain ⟨j, hj⟩ := List.getElem?_of_mem hb
                      have hj : g1.β[j]? = some b := hj
                      by_cases hjp : j ∈ ps
                      · obtain ⟨i, hi⟩ := List.getElem?_of_mem hjp
                        obtain ⟨blk, r1, r2⟩ := hget i j hi
                        rw [hj] at r1
                        injection r1 with r1
                        subst r1
                        exact hg'.obox y _ hy (by rw [hβ']; exact List.mem_append_left _ (List.mem_of_getElem? r2))
                      · rcases newG y b hy with h | h
                        · have := (inv1.ok.newb b hb).2
                          omega
                        · exact otherBox j b hj hjp h
                    rcases back_case hz with ⟨i, _, _, h3⟩ | ⟨q, r, _, _, _, h3⟩ | ⟨_, h3⟩
                    · exact viaG _ h3
                    · exact viaG _ h3
                    · exact inv1.ok.obox z b h3 hb
                  · have viaG : ∀ y, g'.ω y = some b → w0.New b ∧ b < w'.heap.size := fun y hy => by
                      refine ⟨?_, (hg'.newo y b hy).2⟩
                      rcases newG y b hy with h | h
                      · exact .inl (Nat.le_trans inv1.ok.frame.size h)
                      · exact Fnew b h
                    rcases back_case hz with ⟨i, _, _, h3⟩ | ⟨q, r, _, _, _, h3⟩ | ⟨_, h3⟩
                    · exact viaG _ h3
                    · exact viaG _ h3
                    · exact ⟨(inv1.ok.newo z b h3).1, Nat.lt_of_lt_of_le (inv1.ok.newo z b h3).2 hsz⟩
                  · exact ⟨hfr.os.trans inv1.ok.frame.os, hfr.tape.trans inv1.ok.frame.tape, hfr.output.trans inv1.ok.frame.output, Nat.le_trans inv1.ok.frame.size hsz,
                      fun b hb hF => (kept b (Nat.lt_of_lt_of_le hb inv1.ok.frame.size) (nF b hF hb)).trans (inv1.ok.frame.block b hb hF)⟩
                have hcell : ∀ c u, RelC g1 w c u → RelC (g1.back g' ps d n (cellsOfS s)) w' (C.killB ps c) u := fun c u hc => killB_rel (g := g1) (g2 := g1.back g' ps d n (cellsOfS s)) hle rfl hω c u hc
                have inv2 : Inv w0 M0 (g1.back g' ps d n (cellsOfS s)) st' a w' := by
                  refine ⟨ok2, ⟨?_, fun j cs hcs => ?_, ?_⟩, inv1.defs⟩
                  · rw [o1]
                    exact inv1.rel.slots.map _ fun _ _ h => RelS.map hcell h
                  · by_cases hjp : j ∈ ps
                    · obtain ⟨i, hi⟩ := List.getElem?_of_mem hjp
                      obtain ⟨c1, r1, r2⟩ := o4 i j cs hi hcs
                      obtain ⟨blk, us, T, r3, r4, r5⟩ := hbx' i c1 r1
                      obtain ⟨blk', r6, r7⟩ := hget i j hi
                      have : g'.β[i]? = some blk' := by
                        rw [hβ', List.getElem?_append_left (List.getElem?_eq_some_iff.1 r7).1]
                        exact r7
                      rw [this] at r3
                      injection r3 with r3
                      subst r3
                      refine ⟨blk', us, T, r6, r4, reBox_rel (gA := g') (gB := g1.back g' ps d n (cellsOfS s)) (Mem.le_refl _) (fun o ho => ?_) r2 r5⟩
                      rw [Nat.zero_add]
                      exact back_box hdup hi ho
                    · rw [o3 j hjp] at hcs
                      simp only [St.map, mapL_get] at hcs
                      cases hx0 : st1.bx[j]? with
                      | none => rw [hx0] at hcs; simp at hcs
                      | some cs0 =>
                        rw [hx0] at hcs
                        simp at hcs
                        subst hcs
                        obtain ⟨blk, us, T, r1, r2, r3⟩ := inv1.rel.boxes j cs0 hx0
                        exact ⟨blk, us, T, r1, by rw [kept blk (inv1.ok.newb blk (List.mem_of_getElem? r1)).2 (otherBox j blk r1 hjp)]; exact r2, r3.map _ hcell⟩
                  · rw [o2]
                    show g1.β.length = _
                    rw [inv1.rel.blen]
                    simp [St.map, mapL_eq]
                refine ⟨_, _, _, v, rfl, h, inv2, mkRet_rel hden hsf hr' (fun j c r hj ht => ?_) (.inl (Mem.le_refl _))⟩
                have hcl : (cellsOfS s).length = RT.cells rt := by
                  rcases hsf with ⟨y, rfl⟩ | ⟨ys, rfl, _⟩
                  · have := cellsAll_len hden
                    simpa [listOfS, cellsAll, cellsOfS] using this
                  · exact cellsAll_len hden
                have hjn : j < RT.cells rt := by
                  rcases Nat.lt_or_ge j (cellsOfS s).length with h | h
                  · omega
                  · simp [List.getElem?_eq_none h] at hj
                cases hat : anyTrue (V.sig f) with
                | true =>
                  rw [hat, cond_true] at hn
                  rw [back_res (by omega), calleeGrp_of hj ht]
                  rfl
                | false =>
                  have h9 := noOwn_ro (fun k => anyTrue_false hat _ ⟨k, rfl⟩) hden c (by
                    rcases hsf with ⟨y, rfl⟩ | ⟨ys, rfl, _⟩
                    · have := List.mem_of_getElem? hj
                      simpa [listOfS, cellsAll, cellsOfS] using this
                    · exact List.mem_of_getElem? hj)
                  rw [h9] at ht
                  simp at ht
end
end Go.Proofs.Ythiaaaedfidnjaa.Am
