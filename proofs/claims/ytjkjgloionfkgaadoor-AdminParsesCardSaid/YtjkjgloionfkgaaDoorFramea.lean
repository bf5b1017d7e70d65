/- What an operation does not look at does not count: the operations. -/
import Derived.Test.YtjkjgloionfkgaaDoorLen

namespace Go.Abs
variable [Base]

omit [Base] in
theorem store_le {D : List Nat} {s s' : St} (h : Le D s s') {sh : Sh} {a : AV} {x : Opd} (hx : okX D x = true) {s1 : St} (hs : store s sh a x = some s1) :
    ∃ s1', store s' sh a x = some s1' ∧ Le D s1 s1' ∧ Out D s' s1' := by
  cases a with
  | ref l off =>
    simp only [store, h.heap] at hs ⊢
    split at hs
    · rename_i cs hl
      split at hs
      · rename_i v s2 ht
        obtain ⟨s2', t1, t2, t3⟩ := take_le h hx ht
        rw [t1]
        try simp only
        split at hs
        · rename_i hn
          split at hs
          · rename_i l' hc
            split at hs
            · rename_i hle
              simp only [Option.some.injEq] at hs; subst hs
              obtain ⟨k1, k2⟩ := setCells_le (as := l') t2 l off
              refine ⟨_, ?_, k1, t3.trans k2⟩
              simp only [hl, hn, hc, hle, if_true]
            · simp at hs
          · simp at hs
        · simp at hs
      · simp at hs
    · simp at hs
  | eref k i off =>
    simp only [store] at hs ⊢
    split at hs
    · rename_i sz xs hk
      have hk' := getK_le h (by rw [hk]; rfl)
      rw [hk', hk]
      try simp only
      split at hs
      · rename_i v hg
        rw [val_le h hx, give_le h hg]
        try simp only
        split at hs
        · rename_i l' hc
          try simp only [hc]
          have key : ∀ b, Le D (setK s k b) (setK s' k b) ∧ Out D s' (setK s' k b) := fun b => setK_le h (own_in h (by rw [hk]; rfl)) b
          split at hs
          · rename_i ps cs hps hxi
            split at hs
            · rename_i hle
              simp only [Option.some.injEq] at hs; subst hs
              refine ⟨_, ?_, (key _).1, (key _).2⟩
              simp only [hps, hxi, hle, if_true]
            · simp at hs
          · rename_i q wv hne hps hxi
            split at hs
            · simp at hs
            · rename_i e1
              split at hs
              · simp at hs
              · rename_i e2
                split at hs
                · rename_i e3
                  simp only [Option.some.injEq] at hs; subst hs
                  refine ⟨_, ?_, (key _).1, (key _).2⟩
                  try simp only [hps, hxi]
                  rw [if_neg e1, if_neg e2, if_pos e3]
                · simp at hs
          · simp at hs
        · simp at hs
      · simp at hs
    · simp at hs
  | _ => simp [store] at hs

omit [Base] in
theorem doAppend_le {D : List Nat} {s s' : St} (h : Le D s s') {x y : Opd} {fz : Bool} {sz bytes : Nat} (hx : okX D x = true) (hy : okX D y = true) {a : AV} {s1 : St} (hs : doAppend s x y fz sz bytes = some (a, s1)) :
    ∃ s1', doAppend s' x y fz sz bytes = some (a, s1') ∧ Le D s1 s1' ∧ Out D s' s1' := by
  unfold doAppend at hs ⊢
  rw [copy_le h hx, copy_le h hy]
  split at hs
  · rename_i f sy ys hr
    rw [rowOf_le h hr]
    try simp only
    split at hs
    · rename_i hemp
      rw [if_pos hemp]
      split at hs
      · rename_i k hk
        split at hs
        · rename_i f' z xs hg
          simp only [Option.some.injEq, Prod.mk.injEq] at hs
          obtain ⟨rfl, rfl⟩ := hs
          rw [getK_le h (by rw [hg]; rfl), hg]
          obtain ⟨m1, m2⟩ := moved_le h (k := k) (by rw [hg]; rfl) (if f' then .p (.slice z xs) else .undef)
          exact ⟨_, rfl, m1, m2⟩
        · simp at hs
      · simp only [Option.some.injEq, Prod.mk.injEq] at hs
        obtain ⟨rfl, rfl⟩ := hs
        exact ⟨_, rfl, h, Out.refl _ _⟩
      · simp only [Option.some.injEq, Prod.mk.injEq] at hs
        obtain ⟨rfl, rfl⟩ := hs
        exact ⟨_, rfl, h, Out.refl _ _⟩
      · simp at hs
    · rename_i hemp
      rw [if_neg hemp]
      split at hs
      · rename_i hsz
        rw [if_pos hsz]
        split at hs
        · rename_i k hk
          split at hs
          · rename_i f' z xs hg
            split at hs
            · rename_i hcond
              simp only [Option.some.injEq, Prod.mk.injEq] at hs
              obtain ⟨rfl, rfl⟩ := hs
              rw [getK_le h (by rw [hg]; rfl), hg]
              try simp only
              rw [if_pos hcond]
              obtain ⟨m1, m2⟩ := moved_le h (k := k) (by rw [hg]; rfl) (if f' then .p (.slice z xs) else .undef)
              exact ⟨_, rfl, m1, m2⟩
            · simp at hs
          · simp at hs
        · split at hs
          · rename_i hcond
            simp only [Option.some.injEq, Prod.mk.injEq] at hs
            obtain ⟨rfl, rfl⟩ := hs
            rw [if_pos hcond]
            exact ⟨_, rfl, h, Out.refl _ _⟩
          · simp at hs
        · simp at hs
      · simp at hs
  · simp at hs

omit [Base] in
theorem callRefs_le {call : Calls} {D : List Nat} {s s' : St} (h : Le D s s') {f : Nat} {args : List AV} {ls : List Nat} {a : AV} {s1 : St} (hs : callRefs call s f args ls = some (a, s1)) :
    ∃ s1', callRefs call s' f args ls = some (a, s1') ∧ Le D s1 s1' ∧ Out D s' s1' := by
  unfold callRefs at hs ⊢
  rw [h.heap]
  split at hs
  · rename_i args' objs h1 h2
    split at hs
    · rename_i r h' hc
      split at hs
      · rename_i r' h'' h3 h4
        simp only [Option.some.injEq, Prod.mk.injEq] at hs
        obtain ⟨rfl, rfl⟩ := hs
        try simp only [hc, h3, h4]
        refine ⟨_, rfl, ⟨by simp only [h.vars], by simp only, by simp [h.len], fun j hj => by simp only [List.getElem?_map, h.inn j hj], fun j hj => ?_⟩, by simp, fun j hj hn => ?_⟩
        · have := h.out j hj
          simp only [List.getD_eq_getElem?_getD, List.getElem?_map] at this ⊢
          cases hs : s.tmps[j]? with
          | none => rfl
          | some a => simp [hs] at this ⊢; rw [this]; rfl
        · simp only [List.getElem?_map]
          cases hs : s'.tmps[j]? with
          | none => rfl
          | some a =>
            simp only [List.getD_eq_getElem?_getD, hs, Option.getD_some] at hn
            cases a <;> first | rfl | simp [noLoanA] at hn
      · simp at hs
    · simp at hs
  · simp at hs

omit [Base] in
theorem doCall_le {call : Calls} {D : List Nat} {s s' : St} (h : Le D s s') {q : Bool} {f : Nat} {args : List AV} {a : AV} {s1 : St} (hs : doCall call s q f args = some (a, s1)) :
    ∃ s1', doCall call s' q f args = some (a, s1') ∧ Le D s1 s1' ∧ Out D s' s1' := by
  unfold doCall at hs ⊢
  rw [h.heap]
  split at hs
  · rename_i he
    rw [if_pos he]
    split at hs
    · rename_i r h' hc
      try simp only
      split at hs
      · rename_i hr
        simp only [Option.some.injEq, Prod.mk.injEq] at hs
        obtain ⟨rfl, rfl⟩ := hs
        rw [if_pos hr]
        exact ⟨_, rfl, h, Out.refl _ _⟩
      · rename_i hr
        rw [if_neg hr]
        split at hs
        · simp at hs
        · rename_i hq
          rw [if_neg hq]
          exact callRefs_le h hs
    · simp at hs
  · rename_i he
    rw [if_neg he]
    split at hs
    · simp at hs
    · rename_i hq
      rw [if_neg hq]
      exact callRefs_le h hs

/-- The operands of an operation are among what surely is laid. -/
def opX (D : List Nat) : AOp → Bool
  | .mv x | .asg x | .box x _ | .ld x _ | .nilck x | .un _ x | .conv _ x | .cstr x | .mkif _ x | .fld x _ _ | .faddr x _ _ | .ext x _ | .tas x _ _ | .len x | .slen x | .range x | .next x => okX D x
  | .pick c a b => okX D c && okX D a && okX D b
  | .alloc _ | .mkmap => true
  | .build ps => ps.all (partX D)
  | .bslice _ _ ps => ps.all (fun p => okX D p.1)
  | .st x y _ | .bin _ x y | .eq _ _ x y | .idx x y | .iaddr x y _ _ | .app x y _ _ _ | .look x y _ _ => okX D x && okX D y
  | .sslc x l h | .slc x l h _ => okX D x && l.all (okX D) && h.all (okX D)
  | .slc0 x a b c _ => okX D x && okX D a && okX D b && okX D c
  | .call _ _ args => args.all (okX D)
  | .callv _ x args | .inv _ x _ args => okX D x && args.all (okX D)
  | .mn l | .mx l => l.all (okX D)
  | .mkfn _ a c => a.all (okX D) && c.all (okX D)
  | .mset x k y => okX D x && okX D k && okX D y

omit [Base] in
theorem frame {call : Calls} {D : List Nat} {s s' : St} (h : Le D s s') {o : AOp} (hx : opX D o = true) {a : AV} {s1 : St} (he : evOp call o s = some (a, s1)) :
    ∃ s1', evOp call o s' = some (a, s1') ∧ Le D s1 s1' ∧ Out D s' s1' := by
  cases o <;> simp only [opX, Bool.and_eq_true] at hx <;> simp only [evOp] at he ⊢
  case mv x =>
    simp only [Option.some.injEq, Prod.mk.injEq] at he
    obtain ⟨rfl, rfl⟩ := he
    rw [copy_le h hx]
    exact ⟨_, rfl, h, Out.refl _ _⟩
  case asg x => exact take_le h hx he
  case pick c a b =>
    rw [val_le h hx.1.1]
    split at he
    · rename_i t hv
      simp only [Option.some.injEq, Prod.mk.injEq] at he
      obtain ⟨rfl, rfl⟩ := he
      refine ⟨s', ?_, h, Out.refl _ _⟩
      cases t
      · simp only [Bool.false_eq_true, if_false, copy_le h hx.2]
      · simp only [if_true, copy_le h hx.1.2]
    · simp at he
  case alloc z =>
    simp only [Option.some.injEq, Prod.mk.injEq] at he
    obtain ⟨rfl, rfl⟩ := he
    rw [h.heap]
    exact ⟨_, rfl, ⟨h.vars, rfl, h.len, h.inn, h.out⟩, rfl, fun _ _ _ => rfl⟩
  case box x sh =>
    rw [val_le h hx]
    split at he
    · rename_i b hg
      rw [give_le h hg]
      try simp only
      split at he
      · rename_i cs hc
        simp only [Option.some.injEq, Prod.mk.injEq] at he
        obtain ⟨rfl, rfl⟩ := he
        rw [h.heap]
        exact ⟨_, rfl, ⟨h.vars, rfl, h.len, h.inn, h.out⟩, rfl, fun _ _ _ => rfl⟩
      · simp at he
    · simp at he
  case build ps =>
    split at he
    · rename_i cs hp
      simp only [Option.some.injEq, Prod.mk.injEq] at he
      obtain ⟨rfl, rfl⟩ := he
      rw [partsP_le h hx hp]
      exact ⟨_, rfl, h, Out.refl _ _⟩
    · simp at he
  case bslice fz sz ps =>
    split at he
    · rename_i l hp
      rw [rowParts_le h hx hp]
      try simp only
      split at he
      · simp only [Option.some.injEq, Prod.mk.injEq] at he
        obtain ⟨rfl, rfl⟩ := he
        exact ⟨_, rfl, h, Out.refl _ _⟩
      · split at he
        · rename_i hc
          simp only [Option.some.injEq, Prod.mk.injEq] at he
          obtain ⟨rfl, rfl⟩ := he
          rw [if_pos hc]
          exact ⟨_, rfl, h, Out.refl _ _⟩
        · simp at he
    · simp at he
  case ld x sh =>
    simp only [Option.map_eq_some_iff, Prod.mk.injEq] at he ⊢
    obtain ⟨b, h1, rfl, rfl⟩ := he
    exact ⟨s', ⟨b, load_le h (by rw [copy_le h hx]; exact h1), rfl, rfl⟩, h, Out.refl _ _⟩
  case st x y sh =>
    simp only [Option.map_eq_some_iff, Prod.mk.injEq] at he ⊢
    obtain ⟨s2, h1, rfl, rfl⟩ := he
    rw [copy_le h hx.1]
    obtain ⟨s2', k1, k2, k3⟩ := store_le h hx.2 h1
    exact ⟨s2', ⟨s2', k1, rfl, rfl⟩, k2, k3⟩
  case nilck x =>
    rw [copy_le h hx]
    split at he <;> first
      | (simp at he; done)
      | (simp only [Option.some.injEq, Prod.mk.injEq] at he; obtain ⟨rfl, rfl⟩ := he; exact ⟨_, rfl, h, Out.refl _ _⟩)
  case bin op x y =>
    rw [val_le h hx.1, val_le h hx.2]
    split at he
    · simp only [Option.map_eq_some_iff, Prod.mk.injEq] at he
      obtain ⟨v, h1, rfl, rfl⟩ := he
      exact ⟨s', by simp [h1], h, Out.refl _ _⟩
    · simp at he
  case eq ng k x y =>
    rw [val_le h hx.1, val_le h hx.2]
    simp only [Option.map_eq_some_iff, Prod.mk.injEq] at he
    obtain ⟨v, h1, rfl, rfl⟩ := he
    exact ⟨s', by simp [h1], h, Out.refl _ _⟩
  case un op x =>
    rw [val_le h hx]
    split at he <;> first
      | (simp at he; done)
      | (simp only [Option.some.injEq, Prod.mk.injEq] at he; obtain ⟨rfl, rfl⟩ := he; exact ⟨_, rfl, h, Out.refl _ _⟩)
  case conv k x =>
    rw [val_le h hx]
    split at he <;> first
      | (simp at he; done)
      | (simp only [Option.some.injEq, Prod.mk.injEq] at he; obtain ⟨rfl, rfl⟩ := he; exact ⟨_, rfl, h, Out.refl _ _⟩)
  case cstr x =>
    rw [val_le h hx]
    split at he <;> first
      | (simp at he; done)
      | (simp only [Option.some.injEq, Prod.mk.injEq] at he; obtain ⟨rfl, rfl⟩ := he; exact ⟨_, rfl, h, Out.refl _ _⟩)
  case mkif t x =>
    rw [val_le h hx]
    split at he
    · rename_i v hg
      simp only [Option.some.injEq, Prod.mk.injEq] at he
      obtain ⟨rfl, rfl⟩ := he
      rw [give_le h hg]
      exact ⟨_, rfl, h, Out.refl _ _⟩
    · simp at he
  case fld x off sh =>
    rw [val_le h hx]
    split at he
    · simp only [Option.map_eq_some_iff, Prod.mk.injEq] at he
      obtain ⟨v, h1, rfl, rfl⟩ := he
      exact ⟨s', by simp [h1], h, Out.refl _ _⟩
    · simp at he
  case faddr x off sh =>
    rw [copy_le h hx]
    split at he <;> first
      | (simp at he; done)
      | (simp only [Option.some.injEq, Prod.mk.injEq] at he; obtain ⟨rfl, rfl⟩ := he; exact ⟨_, rfl, h, Out.refl _ _⟩)
      | (simp only [Option.map_eq_some_iff, Prod.mk.injEq] at he; obtain ⟨v, h1, rfl, rfl⟩ := he; exact ⟨s', by simp [h1], h, Out.refl _ _⟩)
  case iaddr x i sz sh =>
    rw [val_le h hx.2, copy_le h hx.1]
    split at he
    · rename_i k n hg
      rw [giveP_le h hg]
      try simp only
      split at he
      · split at he
        · rename_i hc
          rw [if_pos hc]
          simp only [Option.map_eq_some_iff, Prod.mk.injEq] at he
          obtain ⟨v, h1, rfl, rfl⟩ := he
          exact ⟨s', by simp [h1], h, Out.refl _ _⟩
        · simp at he
      · split at he
        · rename_i fz z xs hr
          rw [rowOf_le h hr]
          try simp only
          split at he
          · rename_i hc
            rw [if_pos hc]
            split at he
            · rename_i v hv
              split at he
              · rename_i hs
                rw [if_pos hs]
                split at he
                · rename_i hf
                  simp only [Option.some.injEq, Prod.mk.injEq] at he
                  obtain ⟨rfl, rfl⟩ := he
                  rw [if_pos hf]
                  exact ⟨_, rfl, h, Out.refl _ _⟩
                · rename_i hf
                  rw [if_neg hf]
                  split at he
                  · simp only [Option.some.injEq, Prod.mk.injEq] at he
                    obtain ⟨rfl, rfl⟩ := he
                    exact ⟨_, rfl, h, Out.refl _ _⟩
                  · simp at he
              · simp at he
            · simp at he
          · simp at he
        · simp at he
    · simp at he
  case idx x i =>
    rw [val_le h hx.1, val_le h hx.2]
    split at he
    · rename_i b k n hv hg
      rw [giveP_le h hg, hv]
      try simp only
      split at he
      · rename_i hc
        rw [if_pos hc]
        simp only [Option.map_eq_some_iff, Prod.mk.injEq] at he
        obtain ⟨v, h1, rfl, rfl⟩ := he
        exact ⟨s', by simp [h1], h, Out.refl _ _⟩
      · simp at he
    · simp at he
  case sslc x lo hi =>
    rw [val_le h hx.1.1]
    split at he
    · split at he
      · rename_i i j h1 h2
        rw [optInt_le h hx.1.2 h1, optInt_le h hx.2 h2]
        try simp only
        split at he
        · rename_i hc
          rw [if_pos hc]
          simp only [Option.some.injEq, Prod.mk.injEq] at he
          obtain ⟨rfl, rfl⟩ := he
          exact ⟨_, rfl, h, Out.refl _ _⟩
        · simp at he
      · simp at he
    · simp at he
  case slc x lo hi sz =>
    rw [copy_le h hx.1.1]
    split at he
    · rename_i fz z xs hr
      rw [rowOf_le h hr]
      try simp only
      split at he
      · rename_i i j h1 h2
        rw [optInt_le h hx.1.2 h1, optInt_le h hx.2 h2]
        try simp only
        split at he
        · rename_i hc
          rw [if_pos hc]
          simp only [Option.some.injEq, Prod.mk.injEq] at he
          obtain ⟨rfl, rfl⟩ := he
          exact ⟨_, rfl, h, Out.refl _ _⟩
        · simp at he
      · simp at he
    · simp at he
  case slc0 x a b c sz =>
    rw [copy_le h hx.1.1.1, val_le h hx.1.1.2, val_le h hx.1.2, val_le h hx.2]
    split at he
    · rename_i r k1 k2 k3 hr h1 h2 h3
      rw [rowOf_le h hr, giveP_le h h1, giveP_le h h2, giveP_le h h3]
      simp only [Option.some.injEq, Prod.mk.injEq] at he
      obtain ⟨rfl, rfl⟩ := he
      exact ⟨_, rfl, h, Out.refl _ _⟩
    · simp at he
  case ext x i =>
    rw [val_le h hx]
    split at he
    · split at he
      · rename_i c hc
        simp only [Option.map_eq_some_iff, Prod.mk.injEq] at he
        obtain ⟨b, h1, rfl, rfl⟩ := he
        refine ⟨s', ?_, h, Out.refl _ _⟩
        rw [give_le h h1]; rfl
      · simp at he
    · simp at he
  case tas x t zero =>
    rw [val_le h hx]
    split at he
    · split at he
      · split at he <;>
        · rename_i hc
          simp only [Option.some.injEq, Prod.mk.injEq] at he
          obtain ⟨rfl, rfl⟩ := he
          first | rw [if_pos hc] | rw [if_neg hc]
          exact ⟨_, rfl, h, Out.refl _ _⟩
      · split at he
        · rename_i hc
          simp only [Option.some.injEq, Prod.mk.injEq] at he
          obtain ⟨rfl, rfl⟩ := he
          rw [if_pos hc]
          exact ⟨_, rfl, h, Out.refl _ _⟩
        · simp at he
    · simp only [Option.map_eq_some_iff, Prod.mk.injEq] at he
      obtain ⟨v, h1, rfl, rfl⟩ := he
      exact ⟨s', by simp [h1], h, Out.refl _ _⟩
    · simp at he
  case call q f args =>
    simp only [Option.bind_eq_some_iff] at he
    obtain ⟨l, h1, h2⟩ := he
    rw [giveAll_le h hx h1]
    exact doCall_le h h2
  case callv q x args =>
    rw [val_le h hx.1]
    split at he
    · rename_i f l hv hg
      rw [giveAll_le h hx.2 hg, hv]
      exact doCall_le h he
    · rename_i f first cap l hv hg
      rw [giveAll_le h hx.2 hg, hv]
      exact doCall_le h he
    · simp at he
  case inv q x tbl args =>
    rw [val_le h hx.1]
    split at he
    · rename_i t v l hv hg
      rw [giveAll_le h hx.2 hg, hv]
      try simp only
      split at he
      · rename_i f hf
        exact doCall_le h he
      · simp at he
    · simp at he
  case slen x =>
    rw [val_le h hx]
    split at he
    · simp only [Option.some.injEq, Prod.mk.injEq] at he
      obtain ⟨rfl, rfl⟩ := he
      exact ⟨_, rfl, h, Out.refl _ _⟩
    · simp at he
  case len x =>
    rw [copy_le h hx]
    split at he
    · simp only [Option.some.injEq, Prod.mk.injEq] at he
      obtain ⟨rfl, rfl⟩ := he
      exact ⟨_, rfl, h, Out.refl _ _⟩
    · split at he
      · rename_i hr
        simp only [Option.some.injEq, Prod.mk.injEq] at he
        obtain ⟨rfl, rfl⟩ := he
        rw [rowOf_le h hr]
        exact ⟨_, rfl, h, Out.refl _ _⟩
      · simp at he
  case app x y fz sz bytes => exact doAppend_le h hx.1 hx.2 he
  case mn l =>
    simp only [Option.map_eq_some_iff, Prod.mk.injEq] at he
    obtain ⟨b, h1, rfl, rfl⟩ := he
    exact ⟨s', by rw [foldI_le h hx h1]; rfl, h, Out.refl _ _⟩
  case mx l =>
    simp only [Option.map_eq_some_iff, Prod.mk.injEq] at he
    obtain ⟨b, h1, rfl, rfl⟩ := he
    exact ⟨s', by rw [foldI_le h hx h1]; rfl, h, Out.refl _ _⟩
  case mkfn f a c =>
    split at he
    · rename_i h1 h2
      simp only [Option.some.injEq, Prod.mk.injEq] at he
      obtain ⟨rfl, rfl⟩ := he
      rw [giveAll_le h hx.1 h1, giveAll_le h hx.2 h2]
      exact ⟨_, rfl, h, Out.refl _ _⟩
    · rename_i a1 b1 hne h1 h2
      simp only [Option.some.injEq, Prod.mk.injEq] at he
      obtain ⟨rfl, rfl⟩ := he
      rw [giveAll_le h hx.1 h1, giveAll_le h hx.2 h2]
      refine ⟨s', ?_, h, Out.refl _ _⟩
      split
      · rename_i e1 e2
        simp only [Option.some.injEq] at e1 e2
        subst e1; subst e2
        exact absurd rfl (hne rfl)
      · rename_i e1 e2
        simp only [Option.some.injEq] at e1 e2
        subst e1; subst e2
        rfl
      · rename_i e1
        exact absurd rfl (e1 _ _ rfl)
    · simp at he
  case range x =>
    rw [val_le h hx]
    split at he
    · simp only [Option.some.injEq, Prod.mk.injEq] at he
      obtain ⟨rfl, rfl⟩ := he
      rw [h.heap]
      exact ⟨_, rfl, ⟨h.vars, rfl, h.len, h.inn, h.out⟩, rfl, fun _ _ _ => rfl⟩
    · simp at he
  case next x =>
    rw [val_le h hx, h.heap]
    split at he
    · rename_i l hv
      split at he
      · rename_i b pos hl
        try simp only [hl]
        split at he
        · rename_i hc
          rw [if_pos hc]
          simp only [Option.some.injEq, Prod.mk.injEq] at he
          obtain ⟨rfl, rfl⟩ := he
          exact ⟨_, rfl, ⟨h.vars, rfl, h.len, h.inn, h.out⟩, rfl, fun _ _ _ => rfl⟩
        · rename_i hc
          rw [if_neg hc]
          simp only [Option.some.injEq, Prod.mk.injEq] at he
          obtain ⟨rfl, rfl⟩ := he
          exact ⟨_, rfl, h, Out.refl _ _⟩
      · simp at he
    · simp at he
  case mkmap =>
    simp only [Option.some.injEq, Prod.mk.injEq] at he
    obtain ⟨rfl, rfl⟩ := he
    rw [h.heap]
    exact ⟨_, rfl, ⟨h.vars, rfl, h.len, h.inn, h.out⟩, rfl, fun _ _ _ => rfl⟩
  case look x k ok zero =>
    rw [val_le h hx.1, val_le h hx.2, h.heap]
    split at he
    · rename_i l key hv hg
      rw [giveP_le h hg, hv]
      try simp only
      split at he
      · rename_i es hl
        split at he <;> first
          | (simp at he; done)
          | (rename_i hlk
             simp only [Option.some.injEq, Prod.mk.injEq] at he
             obtain ⟨rfl, rfl⟩ := he
             exact ⟨s', rfl, h, Out.refl _ _⟩)
      · simp at he
    · simp at he
  case mset x k y =>
    rw [val_le h hx.1.1, val_le h hx.1.2, val_le h hx.2, h.heap]
    split at he
    · rename_i l key v hv hg hgv
      rw [giveP_le h hg, giveP_le h hgv, hv]
      try simp only
      split at he
      · rename_i es hl
        split at he
        · rename_i es' hp
          split at he
          · simp at he
          · rename_i hc
            rw [if_neg hc]
            simp only [Option.some.injEq, Prod.mk.injEq] at he
            obtain ⟨rfl, rfl⟩ := he
            exact ⟨_, rfl, ⟨h.vars, rfl, h.len, h.inn, h.out⟩, rfl, fun _ _ _ => rfl⟩
        · simp at he
      · simp at he
    · simp at he
end Go.Abs
