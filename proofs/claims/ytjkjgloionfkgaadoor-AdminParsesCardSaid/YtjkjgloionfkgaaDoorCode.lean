/- What stays behind a loop or a block. Code: what the evaluator says of it holds. Code: what the evaluator says of it holds. -/
import Derived.Test.YtjkjgloionfkgaaDoorDraw

namespace Go.Abs
open Go.RowKit
variable [Base]

omit [Base] in
omit [Base] in
mutual
theorem RepA_take {M : Mem} {B : List Nat} {n : Nat} : ∀ {a : AV} {x : Value}, (∀ l ∈ refs a, l < n) → RepA M B a x → RepA M (B.take n) a x
  | .p _, _, _, hr => by simpa [RepA] using hr
  | .ref l _, _, h, hr => by
    simp only [RepA] at hr ⊢
    obtain ⟨b, h1, h2⟩ := hr
    exact ⟨b, by rw [List.getElem?_take, if_pos (h l (by simp [refs]))]; exact h1, h2⟩
  | .mref l, _, h, hr => by
    simp only [RepA] at hr ⊢
    obtain ⟨b, h1, h2⟩ := hr
    exact ⟨b, by rw [List.getElem?_take, if_pos (h l (by simp [refs]))]; exact h1, h2⟩
  | .fn f a c, x, h, hr => by
    simp only [refs, List.mem_append] at h
    simp only [RepA] at hr ⊢
    obtain ⟨va, vc, h1, h2, h3⟩ := hr
    exact ⟨va, vc, h1, RepAs_take (fun l hl => h l (.inl hl)) h2, RepAs_take (fun l hl => h l (.inr hl)) h3⟩
  | .agg _, _, h, hr => by simp only [refs] at h; simp only [RepA] at hr ⊢; obtain ⟨a, h1, h2, h3⟩ := hr; exact ⟨a, h1, RepAs_take h h2, h3⟩
  | .tup _, _, h, hr => by simp only [refs] at h; simp only [RepA] at hr ⊢; obtain ⟨a, h1, h2⟩ := hr; exact ⟨a, h1, RepAs_take h h2⟩
  | .sl _, _, h, hr => by simp only [refs] at h; simp only [RepA] at hr ⊢; obtain ⟨a, c, vs, h1, h2, h3, h4⟩ := hr; exact ⟨a, c, vs, h1, RepAs_take h h2, h3, h4⟩
  | .pt _, _, h, hr => by simp only [refs] at h; simp only [RepA] at hr ⊢; obtain ⟨b, o, y, h1, h2, h3, h4⟩ := hr; exact ⟨b, o, y, h1, h2, RepA_take h h3, h4⟩
  | .undef, _, _, _ => by simp [RepA]
  | .own .., _, _, hr => by simp [RepA] at hr
  | .lent _, _, _, hr => by simp [RepA] at hr
  | .eref .., _, _, hr => by simp [RepA] at hr
theorem RepAs_take {M : Mem} {B : List Nat} {n : Nat} : ∀ {as : List AV} {xs : List Value}, (∀ l ∈ refsL as, l < n) → RepAs M B as xs → RepAs M (B.take n) as xs
  | [], [], _, _ => by simp [RepAs]
  | a :: as, x :: xs, h, hr => by
    simp only [refsL, List.mem_append] at h
    simp only [RepAs] at hr ⊢
    exact ⟨RepA_take (fun l hl => h l (.inl hl)) hr.1, RepAs_take (fun l hl => h l (.inr hl)) hr.2⟩
  | [], _ :: _, _, hr => by simp [RepAs] at hr
  | _ :: _, [], _, hr => by simp [RepAs] at hr
end

omit [Base] in
theorem refsL_mem {a : AV} : ∀ {as : List AV}, a ∈ as → ∀ l ∈ refs a, l ∈ refsL as
  | b :: r, h, l, hl => by
    simp only [refsL, List.mem_append]
    simp only [List.mem_cons] at h
    rcases h with rfl | h
    · exact .inl hl
    · exact .inr (refsL_mem h l hl)
omit [Base] in
theorem objCells_mem {o : Obj} : ∀ {os : List Obj}, o ∈ os → ∀ a ∈ o.cells, a ∈ objCells os
  | b :: r, h, a, ha => by
    simp only [objCells, List.mem_append]
    simp only [List.mem_cons] at h
    rcases h with rfl | h
    · exact .inl ha
    · exact .inr (objCells_mem h a ha)

/-- Who owns what, when the objects from a number on are forgotten. -/
def Gt (G : Gh) (n : Nat) : Gh :=
  ⟨G.M, fun b => match G.Z b with
    | some (.o l) => if l < n then some (.o l) else none
    | some (.k (.c l i)) => if l < n then some (.k (.c l i)) else none
    | z => z, G.B.take n⟩

omit [Base] in
theorem cutV_get (n : Nat) (keep : List Nat) : ∀ (l : List AV) (i j : Nat), (cutV n keep l i)[j]? = (l[j]?).map fun a => if keep.contains (i + j) then cutA n keep a else .undef
  | [], _, _ => by simp [cutV]
  | a :: r, i, 0 => by simp [cutV]
  | a :: r, i, j + 1 => by
    simp only [cutV, List.getElem?_cons_succ]
    rw [cutV_get n keep r (i + 1) j, show i + 1 + j = i + (j + 1) by omega]

omit [Base] in
theorem Ext.len {G G' : Gh} {w w' : World} (h : Ext G w G' w') : G.B.length ≤ G'.B.length := by
  by_cases h0 : G.B.length = 0
  · omega
  · have hl : G.B.length - 1 < G.B.length := by omega
    have := (List.getElem?_eq_some_iff.1 (h.pre _ _ (List.getElem?_eq_getElem hl))).1
    omega

theorem clean_sound {F G s t w} (hR : R F G s t w) {n : Nat} {keep : List Nat} {s' : St} (h : clean n keep s = some s') {Gb : Gh} {wb : World} (hE : Ext Gb wb G w) (hb : Gb.B.length ≤ n) :
    ∃ G', R F G' s' t w ∧ Ext Gb wb G' w := by
  unfold clean at h
  split at h
  · rename_i hall
    simp only [Option.some.injEq] at h; subst h
    have hobj : ∀ (l : Nat) (o : Obj), s.heap[l]? = some o → l < n → ∀ a ∈ o.cells, ∀ m ∈ refs a, m < n := by
      intro l o ho hl a ha m hm
      have h1 : o ∈ s.heap.take n := by
        refine List.mem_of_getElem? (i := l) ?_
        rw [List.getElem?_take, if_pos hl]; exact ho
      have := List.all_eq_true.1 hall m (refsL_mem (objCells_mem h1 a ha) m hm)
      simpa using this
    have hZk : ∀ κ, (∀ l i, κ = .c l i → l < n) → ∀ b, G.Z b = some (.k κ) → (Gt G n).Z b = some (.k κ) ∧ w.heap[b]? = w.heap[b]? ∧ ∀ off, (Gt G n).M b off = G.M b off := by
      intro κ hκ b hz
      refine ⟨?_, rfl, fun _ => rfl⟩
      simp only [Gt, hz]
      cases κ with
      | c l i => simp [hκ l i rfl]
      | v i => rfl
      | t i => rfl
    have own_keep : ∀ κ fz sz xs x, (∀ l i, κ = .c l i → l < n) → OwnRep G w κ fz sz xs x → OwnRep (Gt G n) w κ fz sz xs x := fun κ fz sz xs x hκ h =>
      h.keep (fun _ _ _ h => h) (hZk κ hκ)
    refine ⟨Gt G n, ⟨hR.agree, hR.freshM, fun q o h => ⟨(hR.base q o h).1, by simp only [Gt, (hR.base q o h).2]⟩, ?_, by simp [Gt, hR.hB], hR.inj, ?_, ?_, ?_⟩, ?_⟩
    · intro b hb
      apply hR.freshZ
      intro e
      simp [Gt, e] at hb
    · intro i a ha
      rw [cutV_get, Nat.zero_add] at ha
      simp only [Option.map_eq_some_iff] at ha
      obtain ⟨a0, h1, rfl⟩ := ha
      obtain ⟨m, x, e1, e2, e3⟩ := hR.vars i a0 h1
      refine ⟨m, x, e1, e2, ?_⟩
      have hund : ∀ κ, RepT F (Gt G n) { vars := cutV n keep s.vars 0, tmps := [], heap := s.heap.take n } t w κ .undef x := fun κ => by simp [RepT, RepA]
      split
      · rename_i hk
        unfold cutA
        split
        · rename_i hrefs
          have hrefs' : ∀ l ∈ refs a0, l < n := fun l hl => by simpa using List.all_eq_true.1 hrefs l hl
          have pure : ∀ a1, a1 = a0 → isOwn a0 = false → loanOf a0 = none → RepT F (Gt G n) { vars := cutV n keep s.vars 0, tmps := [], heap := s.heap.take n } t w (.v i) a1 x := by
            rintro a1 rfl ho hl
            have h2 : RepA G.M G.B a1 x := by cases a1 <;> first | exact e3 | (simp [isOwn] at ho; done) | (simp [loanOf] at hl; done)
            exact RepA_T (RepA_take hrefs' h2)
          have loan : ∀ k, isOwn (getK s k) = true → (∀ l i, k = .c l i → l < n) → (∀ j, k = .v j → keep.contains j = true) → (∀ j, k ≠ .t j) →
              getK { vars := cutV n keep s.vars 0, tmps := [], heap := s.heap.take n } k = getK s k ∧ cvK F (Gt G n).B t w k = cvK F G.B t w k := by
            intro k ho hc hv ht
            cases k with
            | t j => exact absurd rfl (ht j)
            | v j =>
              refine ⟨?_, rfl⟩
              simp only [getK, List.getD_eq_getElem?_getD, cutV_get, Nat.zero_add] at ho ⊢
              cases hj : s.vars[j]? with
              | none => rfl
              | some b =>
                simp only [hj, Option.getD_some] at ho
                simp only [Option.map_some, Option.getD_some, hv j rfl, if_true]
                cases b <;> simp [isOwn] at ho
                simp [cutA, refs]
            | c l j =>
              have hl := hc l j rfl
              refine ⟨?_, ?_⟩
              · simp only [getK, List.getElem?_take, if_pos hl]
              · simp only [cvK, Gt, List.getElem?_take, if_pos hl]
          cases a0 with
          | own fz sz xs =>
            simp only [RepT] at e3 ⊢
            exact own_keep _ _ _ _ _ (by simp) e3
          | lent k =>
            cases k with
            | t j => exact hund _
            | v j =>
              simp only
              split
              · rename_i hkj
                simp only [RepT] at e3 ⊢
                obtain ⟨l1, l2⟩ := loan (.v j) e3.2 (by simp) (fun j' e => by injection e with e; rw [← e]; exact hkj) (by simp)
                exact ⟨l2.trans e3.1, by rw [l1]; exact e3.2⟩
              · exact hund _
            | c l j =>
              simp only
              split
              · rename_i hl
                simp only [RepT] at e3 ⊢
                obtain ⟨l1, l2⟩ := loan (.c l j) e3.2 (fun l' i' e => by injection e with e _; rw [← e]; exact hl) (by simp) (by simp)
                exact ⟨l2.trans e3.1, by rw [l1]; exact e3.2⟩
              · exact hund _
          | eref k ix off =>
            cases k with
            | t j => exact hund _
            | v j =>
              simp only
              split
              · rename_i hkj
                simp only [RepT] at e3 ⊢
                obtain ⟨b, nn, c, fz, sz, xs, f1, f2, f3, f4⟩ := e3
                obtain ⟨l1, l2⟩ := loan (.v j) (by rw [f2]; rfl) (by simp) (fun j' e => by injection e with e; rw [← e]; exact hkj) (by simp)
                exact ⟨b, nn, c, fz, sz, xs, l2.trans f1, l1.trans f2, f3, f4⟩
              · exact hund _
            | c l j =>
              simp only
              split
              · rename_i hl
                simp only [RepT] at e3 ⊢
                obtain ⟨b, nn, c, fz, sz, xs, f1, f2, f3, f4⟩ := e3
                obtain ⟨l1, l2⟩ := loan (.c l j) (by rw [f2]; rfl) (fun l' i' e => by injection e with e _; rw [← e]; exact hl) (by simp) (by simp)
                exact ⟨b, nn, c, fz, sz, xs, l2.trans f1, l1.trans f2, f3, f4⟩
              · exact hund _
          | _ => exact pure _ rfl rfl rfl
        · exact hund _
      · exact hund _
    · intro i a ha; simp at ha
    · intro l o ho
      simp only [List.getElem?_take] at ho
      split at ho
      · rename_i hl
        obtain ⟨b, e1, e2, e3, e4⟩ := hR.objs l o ho
        refine ⟨b, by simp only [Gt, List.getElem?_take, if_pos hl]; exact e1, by simp [Gt, e2, hl], e3, ?_⟩
        unfold ObjRep at e4 ⊢
        split
        · rename_i hk
          simp only [hk] at e4
          obtain ⟨arr, T, f1, f2, f3⟩ := e4
          refine ⟨arr, T, f1, f2, fun k a ha => ?_⟩
          obtain ⟨x, g1, g2, g3⟩ := f3 k a ha
          refine ⟨x, g1, g2, ?_⟩
          have hrefs := hobj l o ho hl a (List.mem_of_getElem? ha)
          cases ho' : isOwn a with
          | true =>
            cases a <;> simp [isOwn] at ho'
            simp only [RepC] at g3 ⊢
            exact own_keep _ _ _ _ _ (fun l' i' e => by injection e with e _; rw [← e]; exact hl) g3
          | false =>
            have h2 : RepA G.M G.B a x := by cases a <;> first | exact g3 | simp [isOwn] at ho'
            have h3 := RepA_take hrefs h2
            cases a <;> first | exact h3 | simp [isOwn] at ho'
        · rename_i hk
          simp only [hk] at e4; exact e4
        · rename_i hk
          simp only [hk] at e4; exact e4
      · simp at ho
    · refine ⟨hE.os, hE.tape, hE.output, hE.size, hE.mono, fun b hb' hz => ?_, fun l b hl => ?_⟩
      · obtain ⟨h1, h2, h3⟩ := hE.unowned b hb' hz
        exact ⟨h1, by simp [Gt, h2], h3⟩
      · have := (List.getElem?_eq_some_iff.1 hl).1
        simp only [Gt, List.getElem?_take]
        rw [if_pos (by omega)]
        exact hE.pre _ _ hl
  · simp at h
end Go.Abs

namespace Go.Abs
open Go.RowKit
variable [Base]

def nodupB : List Nat → Bool
  | [] => true
  | a :: r => !r.contains a && nodupB r
omit [Base] in
theorem nodupB_spec : ∀ {l : List Nat}, nodupB l = true → l.Nodup
  | [], _ => by simp
  | a :: r, h => by
    simp only [nodupB, Bool.and_eq_true] at h
    rw [List.nodup_cons]
    exact ⟨by simpa using h.1, nodupB_spec h.2⟩
def somes : List (Option Nat) → List Nat
  | [] => []
  | none :: r => somes r
  | some a :: r => a :: somes r
def frOk (F : Fr) : Bool := nodupB (F.σ ++ somes F.τ)
omit [Base] in
theorem somes_get : ∀ {l : List (Option Nat)} {j n : Nat}, (l[j]?).bind id = some n → n ∈ somes l
  | [], j, n, h => by simp at h
  | none :: r, 0, n, h => by simp at h
  | none :: r, j + 1, n, h => by simp only [somes]; exact somes_get (by simpa using h)
  | some a :: r, 0, n, h => by simp at h; subst h; simp [somes]
  | some a :: r, j + 1, n, h => by
    simp only [somes, List.mem_cons]
    exact .inr (somes_get (by simpa using h))
omit [Base] in
theorem somes_inj : ∀ {l : List (Option Nat)} {i j n : Nat}, (somes l).Nodup → (l[i]?).bind id = some n → (l[j]?).bind id = some n → i = j
  | [], _, _, _, _, h, _ => by simp at h
  | none :: r, 0, _, _, _, h, _ => by simp at h
  | none :: r, _ + 1, 0, _, _, _, h => by simp at h
  | none :: r, i + 1, j + 1, n, hn, h, k => by
    simp only [somes] at hn
    have := somes_inj hn (i := i) (j := j) (n := n) (by simpa using h) (by simpa using k)
    rw [this]
  | some a :: r, 0, 0, _, _, _, _ => rfl
  | some a :: r, 0, j + 1, n, hn, h, k => by
    simp at h; subst h
    simp only [somes, List.nodup_cons] at hn
    exact absurd (somes_get (l := r) (j := j) (by simpa using k)) hn.1
  | some a :: r, i + 1, 0, n, hn, h, k => by
    simp at k; subst k
    simp only [somes, List.nodup_cons] at hn
    exact absurd (somes_get (l := r) (j := i) (by simpa using h)) hn.1
  | some a :: r, i + 1, j + 1, n, hn, h, k => by
    simp only [somes, List.nodup_cons] at hn
    have := somes_inj hn.2 (i := i) (j := j) (n := n) (by simpa using h) (by simpa using k)
    rw [this]
omit [Base] in
theorem nodup_get {l : List Nat} (hn : l.Nodup) {i j n : Nat} (h : l[i]? = some n) (k : l[j]? = some n) : i = j := by
  have h1 := findIx_at (l := n) 0 hn h
  have h2 := findIx_at (l := n) 0 hn k
  rw [h1] at h2
  simpa using h2
omit [Base] in
theorem frOk_inj {F : Fr} (h : frOk F = true) : ∀ κ κ' n, slotK F κ = some n → slotK F κ' = some n → κ = κ' := by
  have hn := nodupB_spec h
  rw [List.nodup_append] at hn
  obtain ⟨h1, h2, h3⟩ := hn
  intro κ κ' n hk hk'
  cases κ with
  | v i =>
    cases κ' with
    | v j => rw [nodup_get h1 hk hk']
    | t j => exact absurd rfl (h3 n (List.mem_of_getElem? hk) n (somes_get hk'))
    | c l k => simp [slotK] at hk'
  | t i =>
    cases κ' with
    | v j => exact absurd rfl (h3 n (List.mem_of_getElem? hk') n (somes_get hk))
    | t j => rw [somes_inj h2 hk hk']
    | c l k => simp [slotK] at hk'
  | c l k => simp [slotK] at hk

/-- Into a region: its temporaries are empty. -/
theorem R.enter {σ : List Nat} {τ : List (Option Nat)} {G s t w} (hR : R ⟨σ, []⟩ G s t w) (hf : frOk ⟨σ, τ⟩ = true) (n : Nat) (hs : s.tmps = []) : R ⟨σ, τ⟩ G { s with tmps := List.replicate n .undef } t w := by
  have keepT : ∀ κ a x, RepT ⟨σ, []⟩ G s t w κ a x → RepT ⟨σ, τ⟩ G { s with tmps := List.replicate n .undef } t w κ a x := by
    intro κ a x h
    have hg : ∀ k, isOwn (getK s k) = true → getK { s with tmps := List.replicate n .undef } k = getK s k ∧ cvK ⟨σ, τ⟩ G.B t w k = cvK ⟨σ, []⟩ G.B t w k := by
      intro k hk
      cases k with
      | v i => exact ⟨rfl, rfl⟩
      | c l i => exact ⟨rfl, rfl⟩
      | t j => simp [getK, hs, isOwn] at hk
    cases a with
    | lent k =>
      simp only [RepT] at h ⊢
      obtain ⟨h1, h2⟩ := hg k h.2
      exact ⟨h2.trans h.1, by rw [h1]; exact h.2⟩
    | eref k i off =>
      simp only [RepT] at h ⊢
      obtain ⟨b, m, c, fz, sz, xs, e1, e2, e3, e4⟩ := h
      obtain ⟨h1, h2⟩ := hg k (by rw [e2]; rfl)
      exact ⟨b, m, c, fz, sz, xs, h2.trans e1, h1.trans e2, e3, e4⟩
    | _ => exact h
  refine ⟨hR.agree, hR.freshM, hR.base, hR.freshZ, hR.hB, frOk_inj hf, fun i a h => ?_, fun j a h => ?_, hR.objs⟩
  · obtain ⟨m, x, e1, e2, e3⟩ := hR.vars i a h
    exact ⟨m, x, e1, e2, keepT _ _ _ e3⟩
  · left
    simp only [List.getElem?_replicate] at h
    split at h
    · simp at h; exact h.symm
    · simp at h

/-- Out of a region: its temporaries are gone. -/
theorem R.leave {σ : List Nat} {τ : List (Option Nat)} {G s t w} (hR : R ⟨σ, τ⟩ G s t w) : R ⟨σ, []⟩ G { s with vars := s.vars.map dropT, tmps := [] } t w := by
  have keepT : ∀ κ a x, RepT ⟨σ, τ⟩ G s t w κ a x → RepT ⟨σ, []⟩ G { s with vars := s.vars.map dropT, tmps := [] } t w κ (dropT a) x := by
    intro κ a x h
    have hund : RepT ⟨σ, []⟩ G { s with vars := s.vars.map dropT, tmps := [] } t w κ .undef x := by simp [RepT, RepA]
    have hg : ∀ k, (∀ j, k ≠ .t j) → isOwn (getK s k) = true → getK { s with vars := s.vars.map dropT, tmps := [] } k = getK s k ∧ cvK ⟨σ, []⟩ G.B t w k = cvK ⟨σ, τ⟩ G.B t w k := by
      intro k ht hk
      cases k with
      | v i =>
        refine ⟨?_, rfl⟩
        simp only [getK, List.getD_eq_getElem?_getD, List.getElem?_map] at hk ⊢
        cases hi : s.vars[i]? with
        | none => rfl
        | some b =>
          simp only [hi, Option.getD_some] at hk
          simp only [Option.map_some, Option.getD_some]
          cases b <;> simp [isOwn] at hk
          rfl
      | c l i => exact ⟨rfl, rfl⟩
      | t j => exact absurd rfl (ht j)
    cases a with
    | lent k =>
      cases k with
      | t j => exact hund
      | _ =>
        simp only [dropT, RepT] at h ⊢
        obtain ⟨h1, h2⟩ := hg _ (by simp) h.2
        exact ⟨h2.trans h.1, by rw [h1]; exact h.2⟩
    | eref k i off =>
      cases k with
      | t j => exact hund
      | v q =>
        simp only [dropT, RepT] at h ⊢
        obtain ⟨b, m, c, fz, sz, xs, e1, e2, e3, e4⟩ := h
        obtain ⟨h1, h2⟩ := hg (.v q) (by simp) (by rw [e2]; rfl)
        exact ⟨b, m, c, fz, sz, xs, h2.trans e1, h1.trans e2, e3, e4⟩
      | c q u =>
        simp only [dropT, RepT] at h ⊢
        obtain ⟨b, m, c, fz, sz, xs, e1, e2, e3, e4⟩ := h
        obtain ⟨h1, h2⟩ := hg (.c q u) (by simp) (by rw [e2]; rfl)
        exact ⟨b, m, c, fz, sz, xs, h2.trans e1, h1.trans e2, e3, e4⟩
    | _ => exact h
  refine ⟨hR.agree, hR.freshM, hR.base, hR.freshZ, hR.hB, ?_, fun i a h => ?_, fun j a h => by simp at h, hR.objs⟩
  · intro κ κ' n hk hk'
    cases κ with
    | v i =>
      cases κ' with
      | v j => exact hR.inj (.v i) (.v j) n hk hk'
      | t j => simp [slotK] at hk'
      | c l k => simp [slotK] at hk'
    | t i => simp [slotK] at hk
    | c l k => simp [slotK] at hk
  · simp only [List.getElem?_map, Option.map_eq_some_iff] at h
    obtain ⟨a0, h1, rfl⟩ := h
    obtain ⟨m, x, e1, e2, e3⟩ := hR.vars i a0 h1
    exact ⟨m, x, e1, e2, keepT _ _ _ e3⟩
end Go.Abs

namespace Go.Abs
open Go.RowKit
variable [Base]

def tausOf : List GOp → List Oper → List (Option Nat)
  | o :: r, co :: cr => (if o.d.isSome || o.nd then none else co.dst) :: tausOf r cr
  | _, _ => []
def matchCode (P : Program) (mt : Meths) (σ : List Nat) (nt : Nat) : ACode → Code → Bool
  | .skip, .skip => true
  | .reg fr ops, .region _ cops false => fr.isEmpty && frOk ⟨σ, tausOf ops cops.toList⟩ && gopsOk P mt ⟨σ, tausOf ops cops.toList⟩ nt cops ops cops.toList 0
  | .dreg fr ops phs, .region _ cops true => fr.isEmpty && frOk ⟨σ, tausOf ops cops.toList⟩ && gopsOk P mt ⟨σ, tausOf ops cops.toList⟩ nt cops ops cops.toList 0 && dsOk ops ops cops.toList 0 && phsOk ops none [] phs
  | .seq a b, .seq c d => matchCode P mt σ nt a c && matchCode P mt σ nt b d
  | .ifc x a b, .cond y c d => opdOk ⟨σ, []⟩ y x && matchCode P mt σ nt a c && matchCode P mt σ nt b d
  | .blk id _ a, .block id' c => id == id' && matchCode P mt σ nt a c
  | .loop _ a, .loop c => matchCode P mt σ nt a c
  | .exit id, .exit id' => id == id'
  | .ret, .ret => true
  | _, _ => false

omit [Base] in
theorem matchReg {P mt σ nt fr ops c} (h : matchCode P mt σ nt (.reg fr ops) c = true) : ∃ id cops, c = .region id cops false ∧ fr = [] ∧ frOk ⟨σ, tausOf ops cops.toList⟩ = true ∧ gopsOk P mt ⟨σ, tausOf ops cops.toList⟩ nt cops ops cops.toList 0 = true := by
  cases c with
  | region id cops draw =>
    cases draw with
    | false =>
      simp only [matchCode, Bool.and_eq_true, List.isEmpty_iff] at h
      exact ⟨id, cops, rfl, h.1.1, h.1.2, h.2⟩
    | true => simp [matchCode] at h
  | _ => simp [matchCode] at h
omit [Base] in
theorem matchDreg {P mt σ nt fr ops phs c} (h : matchCode P mt σ nt (.dreg fr ops phs) c = true) : ∃ id cops, c = .region id cops true ∧ fr = [] ∧ frOk ⟨σ, tausOf ops cops.toList⟩ = true ∧
    gopsOk P mt ⟨σ, tausOf ops cops.toList⟩ nt cops ops cops.toList 0 = true ∧ dsOk ops ops cops.toList 0 = true ∧ phsOk ops none [] phs = true := by
  cases c with
  | region id cops draw =>
    cases draw with
    | true =>
      simp only [matchCode, Bool.and_eq_true, List.isEmpty_iff] at h
      exact ⟨id, cops, rfl, h.1.1.1.1, h.1.1.1.2, h.1.1.2, h.1.2, h.2⟩
    | false => simp [matchCode] at h
  | _ => simp [matchCode] at h

def exOf : Ex → Exit
  | .normal => .normal
  | .exit id => .exit id
  | .ret => .ret

omit [Base] in
theorem gopsOk_length {P : Program} {mt : Meths} {F : Fr} {nt : Nat} {cops : Array Oper} : ∀ {ops : List GOp} {cr : List Oper} {j : Nat}, gopsOk P mt F nt cops ops cr j = true → ops.length = cr.length
  | [], [], _, _ => rfl
  | _ :: r, _ :: cr, j, h => by
    simp only [gopsOk, Bool.and_eq_true] at h
    simp [gopsOk_length h.2]
  | [], _ :: _, _, h => by simp [gopsOk] at h
  | _ :: _, [], _, h => by simp [gopsOk] at h

omit [Base] in
theorem least {p : Nat → Prop} (h : ∃ n, p n) : ∃ n, p n ∧ ∀ m, p m → n ≤ m := by
  obtain ⟨n, hn⟩ := h
  induction n using Nat.strongRecOn with
  | _ n ih =>
    by_cases hm : ∃ m, m < n ∧ p m
    · obtain ⟨m, h1, h2⟩ := hm
      exact ih m h1 h2
    · exact ⟨n, hn, fun m hp => Nat.not_lt.1 fun hlt => hm ⟨m, hlt, hp⟩⟩

open Classical in
omit [Base] in
theorem wp_loopN {P : Program} {Q : Exit → Act → World → Prop} {a : Act} {w : World} {c : Code} (I : Nat → Act → World → Prop) {n : Nat} (h : I n a w) (h0 : ∀ a w, ¬ I 0 a w)
    (round : ∀ n a w, I (n + 1) a w → c.wp P (Exit.then (I n) Q) a w) : (Code.loop c).wp P Q a w := by
  have hmu : ∀ a w, (∃ n, I n a w) → ∃ n, I n a w ∧ ∀ m, I m a w → n ≤ m := fun a w h => least h
  refine wp_loop (fun a w => ∃ n, I n a w) (fun a w => if h : ∃ n, I n a w then Classical.choose (hmu a w h) else 0) ⟨n, h⟩ fun a w hI => ?_
  have hs := Classical.choose_spec (hmu a w hI)
  rw [dif_pos hI]
  generalize Classical.choose (hmu a w hI) = m at hs
  obtain ⟨h1, h2⟩ := hs
  cases m with
  | zero => exact absurd h1 (h0 a w)
  | succ m =>
    refine wp_mono (round m a w h1) fun e a' w' hq => ?_
    cases e <;> first | exact hq | skip
    simp only [Exit.then] at hq ⊢
    refine ⟨⟨m, hq⟩, ?_⟩
    rw [dif_pos ⟨m, hq⟩]
    have hs' := Classical.choose_spec (hmu a' w' ⟨m, hq⟩)
    have := hs'.2 m hq
    omega

section
variable {P : Program} {mt : Meths} {call : Calls} (hC : CallSound P call) (hmt : MethsOk P mt) (hmix : P.follows .mixedOrders = true) {σ : List Nat} {nt : Nat} {df : List Deferred} {fuel : Nat} {Gb : Gh} {wb : World}
include hC hmt hmix

theorem evCode_sound : ∀ (ac : ACode) (c : Code), matchCode P mt σ nt ac c = true → ∀ (s : St) (ex : Ex) (s' : St), evCode call fuel ac s = some (ex, s') → s.tmps = [] →
    ∀ (G : Gh) (t : Array Value) (w : World) (Q : Exit → Act → World → Prop), R ⟨σ, []⟩ G s t w → t.size = nt → Ext Gb wb G w →
      (∀ G' t' w', s'.tmps = [] → R ⟨σ, []⟩ G' s' t' w' → t'.size = nt → Ext Gb wb G' w' → Q (exOf ex) ⟨t', df⟩ w') → c.wp P Q ⟨t, df⟩ w := by
  intro ac
  induction ac with
  | skip =>
    intro c hm s ex s' hev hs G t w Q hR ht hE hk
    cases c <;> simp only [matchCode, Bool.false_eq_true] at hm
    simp only [evCode, Option.some.injEq, Prod.mk.injEq] at hev
    obtain ⟨rfl, rfl⟩ := hev
    exact wp_skip (hk G t w hs hR ht hE)
  | reg fr ops =>
    intro c hm s ex s' hev hs G t w Q hR ht hE hk
    obtain ⟨id, cops, rfl, rfl, hf, hg⟩ := matchReg hm
    simp only [evCode, freezeAll] at hev
    split at hev
    · rename_i s2 h2
      simp only [Option.some.injEq, Prod.mk.injEq] at hev
      obtain ⟨rfl, rfl⟩ := hev
      have hlen : ops.length = cops.size := by simpa using gopsOk_length hg
      refine wp_region ?_
      rw [← hlen, List.range_eq_range']
      refine evOps_sound hC hmt ops cops.toList 0 _ s2 G t w rfl hg h2 (hR.enter hf ops.length hs) ht fun G' t' w' r1 r2 r3 => ?_
      exact hk G' t' w' rfl r1.leave r2 (hE.trans r3)
    · simp at hev
  | dreg fr ops phs =>
    intro c hm s ex s' hev hs G t w Q hR ht hE hk
    obtain ⟨id, cops, rfl, rfl, hf, hg, hd, hp⟩ := matchDreg hm
    simp only [evCode, freezeAll] at hev
    split at hev
    · rename_i s2 h2
      simp only [Option.some.injEq, Prod.mk.injEq] at hev
      obtain ⟨rfl, rfl⟩ := hev
      refine dreg_sound hC hmt hg hd hmix hp hs h2 (hR.enter hf ops.length hs) ht fun G' t' w' E r1 r2 r3 => ?_
      exact hk G' t' w' rfl r1.leave r2 (hE.trans r3)
    · simp at hev
  | seq a b iha ihb =>
    intro c hm s ex s' hev hs G t w Q hR ht hE hk
    cases c <;> simp only [matchCode, Bool.false_eq_true, Bool.and_eq_true] at hm
    rename_i ca cb
    simp only [evCode] at hev
    refine wp_seq ?_
    split at hev
    · rename_i s1 h1
      refine iha ca hm.1 s .normal s1 h1 hs G t w _ hR ht hE fun G1 t1 w1 r0 r1 r2 r3 => ?_
      exact ihb cb hm.2 s1 ex s' hev r0 G1 t1 w1 Q r1 r2 r3 hk
    · rename_i r hne
      refine iha ca hm.1 s ex s' hev hs G t w _ hR ht hE fun G1 t1 w1 r0 r1 r2 r3 => ?_
      have := hk G1 t1 w1 r0 r1 r2 r3
      cases ex with
      | normal => exact absurd hev (hne s')
      | exit id => exact this
      | ret => exact this
  | ifc x a b iha ihb =>
    intro c hm s ex s' hev hs G t w Q hR ht hE hk
    cases c <;> simp only [matchCode, Bool.false_eq_true, Bool.and_eq_true] at hm
    rename_i y ca cb
    have hv := (val_sound (df := df) hR hm.1.1).1
    simp only [evCode] at hev
    split at hev
    · rename_i hval
      rw [hval] at hv
      simp only [RepT, RepA, RepP] at hv
      exact wp_cond_true hv (iha ca hm.1.2 s ex s' hev hs G t w Q hR ht hE hk)
    · rename_i hval
      rw [hval] at hv
      simp only [RepT, RepA, RepP] at hv
      exact wp_cond_false hv (ihb cb hm.2 s ex s' hev hs G t w Q hR ht hE hk)
    · simp at hev
  | blk id keep a iha =>
    intro c hm s ex s' hev hs G t w Q hR ht hE hk
    cases c <;> simp only [matchCode, Bool.false_eq_true, Bool.and_eq_true, beq_iff_eq] at hm
    rename_i id' ca
    obtain ⟨rfl, hm⟩ := hm
    have hbl : Gb.B.length ≤ s.heap.length := by rw [← hR.hB]; exact hE.len
    have htm : ∀ {s1 s2 : St} {n kp}, clean n kp s1 = some s2 → s2.tmps = [] := by
      intro s1 s2 n kp h
      unfold clean at h
      split at h
      · simp only [Option.some.injEq] at h; subst h; rfl
      · simp at h
    simp only [evCode] at hev
    refine wp_block ?_
    split at hev
    · rename_i id1 s1 h1
      split at hev
      · rename_i hid
        simp only [Option.map_eq_some_iff, Prod.mk.injEq] at hev
        obtain ⟨s2, h2, rfl, rfl⟩ := hev
        refine iha ca hm s _ s1 h1 hs G t w _ hR ht hE fun G1 t1 w1 r0 r1 r2 r3 => ?_
        obtain ⟨G2, k1, k2⟩ := clean_sound r1 h2 r3 hbl
        simp only [exOf, Exit.inBlock, hid, if_true]
        exact hk G2 t1 w1 (htm h2) k1 r2 k2
      · rename_i hid
        simp only [Option.some.injEq, Prod.mk.injEq] at hev
        obtain ⟨rfl, rfl⟩ := hev
        refine iha ca hm s _ s1 h1 hs G t w _ hR ht hE fun G1 t1 w1 r0 r1 r2 r3 => ?_
        simp only [exOf, Exit.inBlock, hid, if_false]
        exact hk G1 t1 w1 r0 r1 r2 r3
    · rename_i s1 h1
      simp only [Option.map_eq_some_iff, Prod.mk.injEq] at hev
      obtain ⟨s2, h2, rfl, rfl⟩ := hev
      refine iha ca hm s _ s1 h1 hs G t w _ hR ht hE fun G1 t1 w1 r0 r1 r2 r3 => ?_
      obtain ⟨G2, k1, k2⟩ := clean_sound r1 h2 r3 hbl
      exact hk G2 t1 w1 (htm h2) k1 r2 k2
    · rename_i n1 n2
      refine iha ca hm s ex s' hev hs G t w _ hR ht hE fun G1 t1 w1 r0 r1 r2 r3 => ?_
      have := hk G1 t1 w1 r0 r1 r2 r3
      cases ex with
      | normal => exact absurd hev (n2 s')
      | exit id1 => exact absurd hev (n1 id1 s')
      | ret => exact this
  | loop keep a iha =>
    intro c hm s ex s' hev hs G t w Q hR ht hE hk
    cases c <;> simp only [matchCode, Bool.false_eq_true] at hm
    rename_i ca
    have hbl : Gb.B.length ≤ s.heap.length := by rw [← hR.hB]; exact hE.len
    simp only [evCode] at hev
    split at hev
    case h_2 => simp at hev
    rename_i s0 e0
    obtain ⟨G0, k1, k2⟩ := clean_sound hR e0 hE hbl
    have htm0 : s0.tmps = [] := by
      unfold clean at e0
      split at e0
      · simp only [Option.some.injEq] at e0; subst e0; rfl
      · simp at e0
    refine wp_loopN (fun n a w => ∃ s1 G t, a = ⟨t, df⟩ ∧ iterate (evCode call fuel ‹ACode›) (clean s.heap.length keep) n s1 = some (ex, s') ∧ s1.tmps = [] ∧ R ⟨σ, []⟩ G s1 t w ∧ t.size = nt ∧ Ext Gb wb G w) (n := fuel)
      ⟨s0, G0, t, rfl, hev, htm0, k1, ht, k2⟩ ?_ ?_
    · rintro a w ⟨s1, G, t, _, h, _⟩
      simp [iterate] at h
    · rintro n a w ⟨s1, G1, t1, rfl, h, h1, h2, h3, h4⟩
      simp only [iterate] at h
      split at h
      · rename_i s2 e1
        split at h
        · rename_i s3 e2
          refine iha ca hm s1 _ s2 e1 h1 G1 t1 w _ h2 h3 h4 fun G2 t2 w2 r0 r1 r2 r3 => ?_
          obtain ⟨G3, k1, k2⟩ := clean_sound r1 e2 r3 hbl
          have htm : s3.tmps = [] := by
            unfold clean at e2
            split at e2
            · simp only [Option.some.injEq] at e2; subst e2; rfl
            · simp at e2
          exact ⟨s3, G3, t2, rfl, h, htm, k1, r2, k2⟩
        · simp at h
      · rename_i hne
        refine iha ca hm s1 ex s' h h1 G1 t1 w _ h2 h3 h4 fun G2 t2 w2 r0 r1 r2 r3 => ?_
        have := hk G2 t2 w2 r0 r1 r2 r3
        cases ex with
        | normal => exact absurd h (hne s')
        | exit id => exact this
        | ret => exact this
  | exit id =>
    intro c hm s ex s' hev hs G t w Q hR ht hE hk
    cases c <;> simp only [matchCode, Bool.false_eq_true, beq_iff_eq] at hm
    subst hm
    simp only [evCode, Option.some.injEq, Prod.mk.injEq] at hev
    obtain ⟨rfl, rfl⟩ := hev
    exact wp_exit (hk G t w hs hR ht hE)
  | ret =>
    intro c hm s ex s' hev hs G t w Q hR ht hE hk
    cases c <;> simp only [matchCode, Bool.false_eq_true] at hm
    simp only [evCode, Option.some.injEq, Prod.mk.injEq] at hev
    obtain ⟨rfl, rfl⟩ := hev
    exact wp_ret (hk G t w hs hR ht hE)
end
end Go.Abs
