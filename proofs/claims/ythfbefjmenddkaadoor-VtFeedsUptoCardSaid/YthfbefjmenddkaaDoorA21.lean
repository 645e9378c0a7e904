/- Rows whose order is not fixed: laws on the abstract machine alone. -/
import Derived.Test.YthfbefjmenddkaaDoorA19
namespace Go.Proofs.YthfbefjmenddkaaDoorA
open Go

variable {h h' h2 : Heap} {e e2 : Env} {v : V} {cf : ACall}

theorem ev_congr {x : Opd} (hx : ∀ t, x = .tmp t → e.at t = e2.at t) : x.ev e = x.ev e2 := by
  cases x with
  | tmp t => exact hx t rfl
  | const v => rfl
  | glob g => rfl
  | func f => rfl

theorem map_ev {xs : List Opd} (hx : ∀ x ∈ xs, x.ev e = x.ev e2) : xs.map (·.ev e) = xs.map (·.ev e2) := List.map_congr_left hx

theorem opt_ev {x : Option Opd} (hx : ∀ y ∈ x.toList, y.ev e = y.ev e2) : x.map (·.ev e) = x.map (·.ev e2) := by
  cases x with
  | none => rfl
  | some x => simp only [Option.map_some]; rw [hx x (by simp)]

theorem parts_ev {ps : List (Nat × Nat × Opd)} (hx : ∀ x ∈ ps.map (·.2.2), x.ev e = x.ev e2) : ps.map (fun p => (p.1, p.2.1, p.2.2.ev e)) = ps.map (fun p => (p.1, p.2.1, p.2.2.ev e2)) := by
  apply List.map_congr_left
  intro p hp
  rw [hx p.2.2 (List.mem_map.2 ⟨p, hp, rfl⟩)]

theorem aop_congr {op : AOp} (hx : ∀ x ∈ op.opds, x.ev e = x.ev e2) (h : Heap) : aop cf op e h = aop cf op e2 h := by
  cases op <;> simp only [AOp.opds, List.mem_cons, List.not_mem_nil, or_false, forall_eq, List.mem_append, or_imp, forall_and] at hx <;> simp only [aop] <;> first
    | rfl
    | rw [hx]
    | rw [hx.1, hx.2]
    | rw [hx.1, hx.2.1, hx.2.2]
    | rw [parts_ev hx]
    | rw [map_ev hx]
    | rw [map_ev hx.1, map_ev hx.2]
    | rw [hx.1, map_ev hx.2]
    | rw [hx.1, opt_ev hx.2.1, opt_ev hx.2.2]
    | rw [hx.1, opt_ev hx.2.1.1, opt_ev hx.2.1.2, opt_ev hx.2.2]

theorem stepV_congr {o : AOper} (hx : ∀ t ∈ o.looks, e.at t = e2.at t) (h : Heap) : stepV cf o e h = stepV cf o e2 h := by
  have h1 : wantedA o.guard e = wantedA o.guard e2 := by
    unfold wantedA
    cases hg : o.guard with
    | none => rfl
    | some g =>
      obtain ⟨t, want⟩ := g
      simp only
      rw [hx t (by simp [AOper.looks, hg])]
  have h2 : aop cf o.op e h = aop cf o.op e2 h := aop_congr (fun x hm => ev_congr (fun t ht => hx t (by
    unfold AOper.looks
    refine List.mem_append.2 (.inr (List.mem_filterMap.2 ⟨x, hm, ?_⟩))
    rw [ht]; rfl))) h
  rw [stepV_eq, stepV_eq, h1, h2]

/-- What does not write leaves memory as it is. -/
theorem aop_still {op : AOp} (hw : isWriter op = false) (ha : aop cf op e h = some (v, h')) : h' = h := by
  cases op <;> simp only [isWriter, reduceCtorEq] at hw <;> simp only [aop] at ha <;> (repeat' split at ha) <;> first
    | (cases ha; done)
    | (simp only [Option.some.injEq, Prod.mk.injEq] at ha; exact ha.2.symm)
    | (simp only [Option.map_eq_some_iff, Prod.mk.injEq] at ha; obtain ⟨_, _, _, hh⟩ := ha; exact hh.symm)

theorem stepV_still {o : AOper} (hw : isWriter o.op = false) (ha : stepV cf o e h = some (v, h')) : h' = h := by
  rw [stepV_eq] at ha
  split at ha
  · exact aop_still hw ha
  · simp only [Option.some.injEq, Prod.mk.injEq] at ha; exact ha.2.symm

/-- What neither writes nor reads gives the same in every memory. -/
theorem aop_any {op : AOp} (hw : isWriter op = false) (hr : isReader op = false) (ha : aop cf op e h = some (v, h')) : aop cf op e h2 = some (v, h2) := by
  cases op <;> simp only [isWriter, isReader, reduceCtorEq] at hw hr <;> simp only [aop, sliceV] at ha ⊢ <;> (repeat' split at ha) <;> first
    | (cases ha; done)
    | (simp only [Option.some.injEq, Prod.mk.injEq] at ha; obtain ⟨rfl, _⟩ := ha; simp_all; done)
    | (simp only [Option.map_eq_some_iff, Prod.mk.injEq] at ha; obtain ⟨x, hx, rfl, _⟩ := ha; simp_all; done)

theorem stepV_any {o : AOper} (hw : isWriter o.op = false) (hr : isReader o.op = false) (ha : stepV cf o e h = some (v, h')) : stepV cf o e h2 = some (v, h2) := by
  rw [stepV_eq] at ha ⊢
  split at ha
  · rename_i hg
    rw [if_pos hg]
    exact aop_any hw hr ha
  · rename_i hg
    rw [if_neg hg]
    simp only [Option.some.injEq, Prod.mk.injEq] at ha
    rw [ha.1]

mutual
theorem sameV_eq : ∀ {a b : V}, sameV a b = true → a = b
  | .bool _, b, hs => by cases b <;> simp_all [sameV]
  | .int _ _, b, hs => by cases b <;> simp_all [sameV]
  | .str _, b, hs => by cases b <;> simp_all [sameV]
  | .nilptr, b, hs => by cases b <;> simp_all [sameV]
  | .ptr _ _, b, hs => by cases b <;> simp_all [sameV]
  | .nilslice, b, hs => by cases b <;> simp_all [sameV]
  | .slice _ _ _ _, b, hs => by cases b <;> simp_all [sameV]
  | .func f p q, b, hs => by
    cases b <;> simp only [sameV, Bool.false_eq_true] at hs
    simp only [Bool.and_eq_true, beq_iff_eq] at hs
    obtain ⟨⟨h1, h2⟩, h3⟩ := hs
    rw [h1, sameL_eq h2, sameL_eq h3]
  | .nilfunc, b, hs => by cases b <;> simp_all [sameV]
  | .iface t v, b, hs => by
    cases b <;> simp only [sameV, Bool.false_eq_true] at hs
    simp only [Bool.and_eq_true, beq_iff_eq] at hs
    rw [hs.1, sameV_eq hs.2]
  | .niliface, b, hs => by cases b <;> simp_all [sameV]
  | .agg _, b, hs => by
    cases b <;> simp only [sameV, Bool.false_eq_true] at hs
    rw [sameL_eq hs]
  | .tuple _, b, hs => by
    cases b <;> simp only [sameV, Bool.false_eq_true] at hs
    rw [sameL_eq hs]
theorem sameL_eq : ∀ {a b : List V}, sameL a b = true → a = b
  | [], b, hs => by cases b <;> simp_all [sameL]
  | x :: l, b, hs => by
    cases b with
    | nil => simp [sameL] at hs
    | cons y m =>
      simp only [sameL, Bool.and_eq_true] at hs
      rw [sameV_eq hs.1, sameL_eq hs.2]
end

/-! ### Temporaries and memory behind some of the operations -/

def Env.like (a b : Env) : Prop := a.n = b.n ∧ ∀ t, a.at t = b.at t

theorem Env.like_refl (a : Env) : a.like a := ⟨rfl, fun _ => rfl⟩

theorem put_like {a b : Env} (hl : a.like b) (d : Option Nat) (x : V) : (put a d x).like (put b d x) := by
  cases d with
  | none => exact hl
  | some d => exact ⟨by simp only [put, Env.n_put]; exact hl.1, fun t => by simp only [put, Env.at_put, hl.1, hl.2]⟩

theorem envL_like (s : Nat → Bool) : ∀ (l : List It) (k : Nat) (a b : Env), a.like b → (envL s k l a).like (envL s k l b)
  | [], _, _, _, hl => hl
  | x :: r, k, a, b, hl => by
    simp only [envL]
    split
    · exact envL_like s r (k + 1) _ _ (put_like hl _ _)
    · exact envL_like s r (k + 1) _ _ hl

theorem envL_n (s : Nat → Bool) : ∀ (l : List It) (k : Nat) (a : Env), (envL s k l a).n = a.n
  | [], _, _ => rfl
  | x :: r, k, a => by
    simp only [envL]
    rw [envL_n s r (k + 1)]
    split
    · cases x.o.dst with
      | none => rfl
      | some d => exact Env.n_put _ _ _
    · rfl

/-- Looked at where the two sets part in nothing that writes it, a temporary is the same. -/
theorem envL_at {s s2 : Nat → Bool} {t : Nat} : ∀ (l : List It) (k : Nat) (a b : Env), a.n = b.n → a.at t = b.at t → (∀ j x, l[j]? = some x → s (k + j) ≠ s2 (k + j) → x.o.dst ≠ some t) →
    (envL s k l a).at t = (envL s2 k l b).at t
  | [], _, _, _, _, hl, _ => hl
  | x :: r, k, a, b, hn, hl, hd => by
    simp only [envL]
    have h0 := hd 0 x (by simp)
    simp only [Nat.add_zero] at h0
    refine envL_at r (k + 1) _ _ ?_ ?_ (fun j y hj hne => hd (j + 1) y (by simpa using hj) (by rwa [Nat.add_assoc, Nat.add_comm 1 j] at hne))
    · have hp : ∀ (c : Env), (put c x.o.dst x.v).n = c.n := fun c => by
        cases x.o.dst with
        | none => rfl
        | some d => exact Env.n_put _ _ _
      split <;> split <;> simp [hp, hn]
    · by_cases hs : s k = s2 k
      · rw [hs]
        split
        · cases hdst : x.o.dst with
          | none => exact hl
          | some d => simp only [put, Env.at_put, hn, hl]
        · exact hl
      · have hne := h0 hs
        have hp : ∀ (c : Env), (put c x.o.dst x.v).at t = c.at t := fun c => by
          cases hdst : x.o.dst with
          | none => rfl
          | some d =>
            simp only [put, Env.at_put]
            rw [if_neg]
            rintro ⟨rfl, _⟩
            exact hne hdst
        split <;> split <;> simp [hp, hl]

/-- One more. -/
theorem envL_add {s : Nat → Bool} {i : Nat} (hi : s i = false) : ∀ (l : List It) (k : Nat) (a : Env) (x : It), l[i - k]? = some x → k ≤ i → (∀ j y, l[j]? = some y → i < k + j → s (k + j) = true → ∀ d, x.o.dst = some d → y.o.dst ≠ some d) →
    (envL (fun j => s j || decide (j = i)) k l a).like (put (envL s k l a) x.o.dst x.v)
  | [], _, _, _, hx, _, _ => by simp at hx
  | y :: r, k, a, x, hx, hk, hd => by
    simp only [envL]
    by_cases hik : i = k
    · subst hik
      simp only [Nat.sub_self, List.getElem?_cons_zero, Option.some.injEq] at hx
      subst hx
      simp only [hi, decide_true, Bool.or_true, if_true, Bool.false_eq_true, if_false]
      -- what follows does not touch it
      have key : ∀ (r : List It) (k : Nat) (a : Env), i < k → (∀ j z, r[j]? = some z → s (k + j) = true → ∀ d, y.o.dst = some d → z.o.dst ≠ some d) →
          (envL (fun j => s j || decide (j = i)) k r (put a y.o.dst y.v)).like (put (envL s k r a) y.o.dst y.v) := by
        intro r
        induction r with
        | nil => intro k a _ _; exact Env.like_refl _
        | cons z r ih =>
          intro k a hlt hz
          simp only [envL]
          have hne : decide (k = i) = false := by simp; omega
          simp only [hne, Bool.or_false]
          have h0 := hz 0 z (by simp)
          simp only [Nat.add_zero] at h0
          cases hs : s k with
          | false =>
            simp only [Bool.false_eq_true, if_false]
            exact ih (k + 1) a (by omega) (fun j w hj hsj => hz (j + 1) w (by simpa using hj) (by rwa [Nat.add_assoc, Nat.add_comm 1 j] at hsj))
          | true =>
            simp only [if_true]
            have hcomm : (put (put a y.o.dst y.v) z.o.dst z.v).like (put (put a z.o.dst z.v) y.o.dst y.v) := by
              cases hy : y.o.dst with
              | none => exact Env.like_refl _
              | some d =>
                cases hzz : z.o.dst with
                | none => exact Env.like_refl _
                | some d' =>
                  have hdd : d' ≠ d := fun e => h0 hs d hy (by rw [hzz, e])
                  refine ⟨by simp only [put, Env.n_put], fun t => ?_⟩
                  simp only [put, Env.at_put, Env.n_put]
                  by_cases h1 : t = d'
                  · subst h1
                    have : ¬ (t = d ∧ d < a.n) := fun hh => hdd hh.1
                    simp [this]
                  · by_cases h2 : t = d
                    · subst h2; simp [h1]
                    · simp [h1, h2]
            have hA := envL_like (fun j => s j || decide (j = i)) r (k + 1) _ _ hcomm
            have hB := ih (k + 1) (put a z.o.dst z.v) (by omega) (fun j w hj hsj => hz (j + 1) w (by simpa using hj) (by rwa [Nat.add_assoc, Nat.add_comm 1 j] at hsj))
            exact ⟨hA.1.trans hB.1, fun t => (hA.2 t).trans (hB.2 t)⟩
      exact key r (i + 1) a (by omega) (fun j z hj hsj => hd (j + 1) z (by simpa using hj) (by omega) (by rwa [Nat.add_assoc, Nat.add_comm 1 j] at hsj))
    · have hne : decide (k = i) = false := by simp; omega
      simp only [hne, Bool.or_false]
      have e1 : i - k = (i - (k + 1)) + 1 := by omega
      rw [e1, List.getElem?_cons_succ] at hx
      exact envL_add hi r (k + 1) _ x hx (by omega) (fun j z hj hlt hsj => hd (j + 1) z (by simpa using hj) (by omega) (by rwa [Nat.add_assoc, Nat.add_comm 1 j] at hsj))

end Go.Proofs.YthfbefjmenddkaaDoorA
