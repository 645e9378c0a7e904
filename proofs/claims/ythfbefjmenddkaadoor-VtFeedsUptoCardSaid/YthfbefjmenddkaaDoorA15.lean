/- Every operation but the call. -/
import Derived.Test.YthfbefjmenddkaaDoorA14
namespace Go.Proofs.YthfbefjmenddkaaDoorA
open Go

variable {P : Program} {Z : Base} {ρ : Ren} {h h' : Heap} {w : World} {a : Act} {e : Env} {v : V} {cf : ACall}

theorem dn_part {t : TypeId} {cs : List V} {xs : Array Value} {off n : Nat} (r : Rel Z ρ h w) (hx : VRL ρ cs xs.toList)
    (hv : (aggA P t = some true ∧ sizeA P t = some n ∧ off + n ≤ cs.length ∧ v = .agg ((cs.drop off).take n)) ∨ (aggA P t = some false ∧ cs[off]? = some v)) : Does P Z ρ (part t xs off) w v h := by
  rcases hv with ⟨h1, h2, h3, rfl⟩ | ⟨h1, h2⟩
  · refine Does.pure (u := .agg (xs.extract off (off + n))) ?_ r ?_
    · unfold part
      simp only [Sem.run_bind, run_aggA h1, Result.andThen_ok, if_true, run_sizeA h2, Sem.run_pure]
    · simp only [VR]
      refine ⟨_, rfl, ?_⟩
      rw [Array.toList_extract, List.extract_eq_take_drop, Nat.add_sub_cancel_left]
      exact (hx.drop off).take n
  · obtain ⟨u, h3, h4⟩ := hx.get h2
    refine Does.pure (u := u) ?_ r h4
    unfold part
    rw [Array.getElem?_toList] at h3
    simp only [Sem.run_bind, run_aggA h1, Result.andThen_ok, Bool.false_eq_true, if_false, h3, Sem.run_pure]

theorem dn_field {t : TypeId} {x : Operand} {i : Nat} {ao : AOp} (hG : P.globals.size ≤ Z.G) (r : Rel Z ρ h w) (he : ER ρ e a.tmps) (hc : compOp P (.field t x i) = some ao)
    (ha : aop cf ao e h = some (v, h')) : Does P Z ρ (Instr.field t (a.eval x) i) w v h' := by
  simp only [compOp] at hc
  split at hc
  · rename_i fs x' hu hx
    have vx := cOpd_ok hG hx r he
    split at hc
    · rename_i f hf
      have key : ∀ (xs : Array Value) (s : Sem Value → Prop), a.eval x = .agg xs → (Instr.field t (a.eval x) i).run P w = (part f.type xs f.offset).run P w := by
        intro xs _ hxs
        rw [hxs]
        unfold Instr.field
        simp only [Sem.run_bind, run_underlying hu, Result.andThen_ok, hf, asAgg, Sem.run_pure]
      split at hc
      · rename_i n hag hsz
        have hc := Option.some.inj hc
        subst hc
        simp only [aop] at ha
        split at ha
        · rename_i cs hxv
          rw [hxv] at vx
          obtain ⟨xs, hxs, hv⟩ := vx.agg_inv
          split at ha
          · rename_i hle
            simp only [Option.some.injEq, Prod.mk.injEq] at ha
            obtain ⟨rfl, rfl⟩ := ha
            obtain ⟨u, w', ρ', k1, k2⟩ := dn_part (P := P) (v := .agg ((cs.drop f.offset).take n)) r hv (.inl ⟨hag, hsz, hle, rfl⟩)
            exact ⟨u, w', ρ', by rw [key xs (fun _ => True) hxs]; exact k1, k2⟩
          · cases ha
        · cases ha
      · rename_i hag
        have hc := Option.some.inj hc
        subst hc
        simp only [aop] at ha
        split at ha
        · rename_i cs hxv
          rw [hxv] at vx
          obtain ⟨xs, hxs, hv⟩ := vx.agg_inv
          split at ha
          · rename_i v' hle
            simp only [Option.some.injEq, Prod.mk.injEq] at ha
            obtain ⟨rfl, rfl⟩ := ha
            obtain ⟨u, w', ρ', k1, k2⟩ := dn_part (P := P) (v := v') (n := 0) r hv (.inr ⟨hag, hle⟩)
            exact ⟨u, w', ρ', by rw [key xs (fun _ => True) hxs]; exact k1, k2⟩
          · cases ha
        · cases ha
      · cases hc
    · cases hc
  · cases hc

theorem dn_fieldAddr {t : TypeId} {x : Operand} {i : Nat} {ao : AOp} (hG : P.globals.size ≤ Z.G) (r : Rel Z ρ h w) (he : ER ρ e a.tmps) (hc : compOp P (.fieldAddr t x i) = some ao)
    (ha : aop cf ao e h = some (v, h')) : Does P Z ρ (Instr.fieldAt t (a.eval x) i) w v h' := by
  simp only [compOp] at hc
  split at hc
  · rename_i fs x' hu hx
    have vx := cOpd_ok hG hx r he
    split at hc
    · rename_i f hf
      split at hc
      · rename_i n hsz
        split at hc
        · cases hc
        · rename_i hn
          have hc := Option.some.inj hc
          subst hc
          simp only [aop] at ha
          split at ha
          · rename_i b o hxv
            rw [hxv] at vx
            obtain ⟨L, hL, hxs⟩ := vx.ptr_inv
            simp only [Option.some.injEq, Prod.mk.injEq] at ha
            obtain ⟨rfl, rfl⟩ := ha
            refine Does.pure (u := .pointer (some ⟨L.block, L.off + (o + f.offset), none⟩)) ?_ r (by simp only [VR]; exact ⟨L, hL, rfl⟩)
            rw [hxs]
            unfold Instr.fieldAt
            simp only [Sem.run_bind, run_underlying hu, Result.andThen_ok, hf, Instr.sureAddr, Sem.run_pure, fieldPlace, run_sizeA hsz, if_neg hn, addr_add, Nat.add_assoc]
          · cases ha
      · cases hc
    · cases hc
  · cases hc

theorem dn_indexAddr {t : TypeId} {x y : Operand} {ao : AOp} (hG : P.globals.size ≤ Z.G) (r : Rel Z ρ h w) (he : ER ρ e a.tmps) (hc : compOp P (.indexAddr t x y) = some ao)
    (ha : aop cf ao e h = some (v, h')) : Does P Z ρ (Instr.indexAt t (a.eval x) (a.eval y)) w v h' := by
  simp only [compOp] at hc
  split at hc
  · rename_i len el x' y' hu hx hy
    have vx := cOpd_ok hG hx r he
    have vy := cOpd_ok hG hy r he
    simp only [Option.map_eq_some_iff] at hc
    obtain ⟨s, hs, rfl⟩ := hc
    simp only [aop] at ha
    split at ha
    · rename_i b o k i hxv hyv
      rw [hxv] at vx
      rw [hyv] at vy
      split at ha
      · rename_i hi
        simp only [Option.some.injEq, Prod.mk.injEq] at ha
        obtain ⟨rfl, rfl⟩ := ha
        obtain ⟨L, hL, hxs⟩ := vx.ptr_inv
        refine Does.pure (u := .pointer (some ⟨L.block, L.off + (o + i.toNat * s), none⟩)) ?_ r (by simp only [VR]; exact ⟨L, hL, rfl⟩)
        rw [hxs, vy.int_inv]
        unfold Instr.indexAt
        simp only [Sem.run_bind, asIntOf, Sem.run_pure, Result.andThen_ok, run_underlying hu, Instr.sureAddr, if_pos hi, run_sizeA hs, addr_add, Nat.add_assoc]
      · cases ha
    · cases ha
  · rename_i el x' y' hu hx hy
    have vx := cOpd_ok hG hx r he
    have vy := cOpd_ok hG hy r he
    simp only [Option.map_eq_some_iff] at hc
    obtain ⟨s, hs, rfl⟩ := hc
    simp only [aop] at ha
    split at ha
    · rename_i b o n c k i hxv hyv
      rw [hxv] at vx
      rw [hyv] at vy
      split at ha
      · rename_i hi
        simp only [Option.some.injEq, Prod.mk.injEq] at ha
        obtain ⟨rfl, rfl⟩ := ha
        obtain ⟨L, ad, cap, hL, hn, ho, _, _, hxs⟩ := vx.slice_inv
        have ho := ho.resolve_left (by omega)
        subst ho
        refine Does.pure (u := .pointer (some ⟨L.block, L.off + (o + i.toNat * s), none⟩)) ?_ r (by simp only [VR]; exact ⟨L, hL, rfl⟩)
        rw [hxs, vy.int_inv]
        unfold Instr.indexAt
        simp only [Sem.run_bind, asIntOf, Sem.run_pure, Result.andThen_ok, run_underlying hu, if_pos hi, run_sizeA hs, addr_add, Nat.add_assoc]
      · cases ha
    · cases ha
  · cases hc

theorem dn_index {t : TypeId} {x y : Operand} {ao : AOp} (hG : P.globals.size ≤ Z.G) (r : Rel Z ρ h w) (he : ER ρ e a.tmps) (hc : compOp P (.index t x y) = some ao)
    (ha : aop cf ao e h = some (v, h')) : Does P Z ρ (Instr.index t (a.eval x) (a.eval y)) w v h' := by
  simp only [compOp] at hc
  split at hc
  · rename_i len el x' y' hu hx hy
    have vx := cOpd_ok hG hx r he
    have vy := cOpd_ok hG hy r he
    split at hc
    · rename_i bb s hb hs
      have hc := Option.some.inj hc
      subst hc
      simp only [aop] at ha
      split at ha
      · rename_i cs k i hxv hyv
        rw [hxv] at vx
        rw [hyv] at vy
        obtain ⟨xs, hxs, hv⟩ := vx.agg_inv
        split at ha
        · rename_i hi
          have key : (Instr.index t (a.eval x) (a.eval y)).run P w = (part el xs (i.toNat * s)).run P w := by
            rw [hxs, vy.int_inv]
            unfold Instr.index
            simp only [Sem.run_bind, asIntOf, Sem.run_pure, Result.andThen_ok, run_underlying hu, if_pos hi, run_sizeA hs]
          have key2 : Does P Z ρ (part el xs (i.toNat * s)) w v h → h' = h → Does P Z ρ (Instr.index t (a.eval x) (a.eval y)) w v h' := by
            rintro ⟨u, w', ρ', k1, k2⟩ rfl
            exact ⟨u, w', ρ', by rw [key]; exact k1, k2⟩
          cases bb with
          | true =>
            simp only [if_true] at ha
            split at ha
            · rename_i hle
              simp only [Option.some.injEq, Prod.mk.injEq] at ha
              obtain ⟨rfl, rfl⟩ := ha
              exact key2 (dn_part r hv (.inl ⟨hb, hs, hle, rfl⟩)) rfl
            · cases ha
          | false =>
            simp only [Bool.false_eq_true, if_false] at ha
            split at ha
            · rename_i v' hle
              simp only [Option.some.injEq, Prod.mk.injEq] at ha
              obtain ⟨rfl, rfl⟩ := ha
              exact key2 (dn_part (n := 0) r hv (.inr ⟨hb, hle⟩)) rfl
            · cases ha
        · cases ha
      · cases ha
    · cases hc
  · rename_i x' y' hu hx hy
    have vx := cOpd_ok hG hx r he
    have vy := cOpd_ok hG hy r he
    have hc := Option.some.inj hc
    subst hc
    simp only [aop] at ha
    split at ha
    · rename_i s k i hxv hyv
      rw [hxv] at vx
      rw [hyv] at vy
      obtain ⟨bs, hbs, rfl⟩ := vx.str_inv
      split at ha
      · rename_i hi
        split at ha
        · rename_i c hcb
          simp only [Option.some.injEq, Prod.mk.injEq] at ha
          obtain ⟨rfl, rfl⟩ := ha
          simp only [List.getElem?_map, Option.map_eq_some_iff] at hcb
          obtain ⟨cb, hcb, rfl⟩ := hcb
          refine Does.pure (u := .int .u8 cb.toNat) ?_ r VR.mk_int
          rw [hbs, vy.int_inv]
          unfold Instr.index
          have hget : bs[i.toNat]? = some cb := by
            rw [Array.getElem?_toList] at hcb
            have hlt := (Array.getElem?_eq_some_iff.1 hcb).1
            have : i.toNat < bs.size := hlt
            rw [getElem?_pos bs i.toNat this]
            rw [Array.getElem?_eq_getElem hlt] at hcb
            exact hcb
          simp only [Sem.run_bind, asIntOf, Sem.run_pure, Result.andThen_ok, run_underlying hu, if_pos hi, hget]
        · cases ha
      · cases ha
    · cases ha
  · cases hc

theorem run_stringish {b o : Nat} {cs : List V} {t z : Nat} {L : Loc} (r : Rel Z ρ h w) (hget : h.get b = some (.cells cs t z true)) (hL : ρ b = some L) : ∃ w', (markStringish ⟨L.block, o, none⟩).run P w = .ok () w' ∧ Rel Z ρ h w' := by
  obtain ⟨L', hL', us, fz, hu, hrm, hsz, hez, hown, hcs⟩ := r.live b _ hget
  have eL : L' = L := Option.some.inj (hL'.symm.trans hL)
  subst eL
  have hshape : w.shape? L'.block = some (t, us.size) := by unfold World.shape?; rw [hu]
  refine ⟨w.freeze ⟨L'.block, us.size, none⟩ 1, ?_, ?_⟩
  · unfold markStringish
    simp only [Sem.run_bind, run_shape, hshape, Result.andThen_ok, run_freeze]
  · let F : Obj → Obj := fun
      | .cells c elem (lo, hi) => .cells c elem (if lo == hi then (us.size, us.size + 1) else (min lo us.size, max hi (us.size + 1)))
      | o => o
    have hheap : (w.freeze ⟨L'.block, us.size, none⟩ 1).heap = w.heap.modify L'.block F := rfl
    have hoth : ∀ k, k ≠ L'.block → (w.freeze ⟨L'.block, us.size, none⟩ 1).heap[k]? = w.heap[k]? := by
      intro k hk
      rw [hheap, Array.getElem?_modify, if_neg (fun e => hk e.symm)]
    have hsame : (w.freeze ⟨L'.block, us.size, none⟩ 1).heap[L'.block]? = some (.cells us t (if fz.1 == fz.2 then (us.size, us.size + 1) else (min fz.1 us.size, max fz.2 (us.size + 1)))) := by
      rw [hheap, Array.getElem?_modify, if_pos rfl, hu]
      rfl
    have hKb := (hown rfl).1
    have hfz := (hown rfl).2
    refine ⟨r.os, r.tape, r.output, fun k ob hk => ?_, r.dom, ?_, r.inj, r.glob, r.hid, r.res⟩
    · rw [hoth k (fun e => by subst e; rw [hKb] at hk; cases hk)]
      exact r.keep k ob hk
    · intro i B hi
      by_cases e : i = b
      · subst e
        have hB : B = .cells cs t z true := Option.some.inj (hi.symm.trans hget)
        subst hB
        refine ⟨L', hL, us, _, hsame, hrm, hsz, hez, fun _ => ⟨hKb, ?_⟩, hcs⟩
        by_cases hlo : fz.1 = fz.2
        · simp [hlo]
        · have hb : (fz.1 == fz.2) = false := by simpa using hlo
          rw [hb]
          have := hfz.resolve_left hlo
          simp only [Bool.false_eq_true, if_false]
          omega
      · obtain ⟨Li, g1, g2⟩ := r.live i B hi
        refine ⟨Li, g1, ?_⟩
        have hne : Li.block ≠ L'.block := fun hE => e (r.inj1 hi hget g1 hL hE rfl)
        cases B with
        | cells c t0 z0 own => obtain ⟨us0, fz0, g3, g4⟩ := g2; exact ⟨us0, fz0, by rw [hoth _ hne]; exact g3, g4⟩
        | iter s p => obtain ⟨bs0, g3, g4⟩ := g2; exact ⟨bs0, by rw [hoth _ hne]; exact g3, g4⟩

theorem dn_convert {src dst : TypeId} {x : Operand} {ao : AOp} (hG : P.globals.size ≤ Z.G) (r : Rel Z ρ h w) (he : ER ρ e a.tmps) (hc : compOp P (.convert src dst x) = some ao)
    (ha : aop cf ao e h = some (v, h')) : Does P Z ρ (convert src dst (a.eval x)) w v h' := by
  have run_of : ∀ {ds dd : TypeDesc} {p : Value} {s : Sem Value}, P.underlying src = some ds → P.underlying dst = some dd → (∀ f : TypeDesc → TypeDesc → Value → Sem Value, True) → True := fun _ _ _ => trivial
  simp only [compOp] at hc
  split at hc
  · rename_i ds k x' hs hd hx
    have vx := cOpd_ok hG hx r he
    have hc := Option.some.inj hc
    subst hc
    simp only [aop] at ha
    split at ha
    · rename_i k0 n hxv
      rw [hxv] at vx
      simp only [Option.some.injEq, Prod.mk.injEq, wrapF_eq] at ha
      obtain ⟨rfl, rfl⟩ := ha
      refine Does.pure (u := .int k (k.wrap n)) ?_ r VR.mk_int
      rw [vx.int_inv]
      unfold convert
      simp only [Sem.run_bind, run_underlying hs, run_underlying hd, Result.andThen_ok]
      cases ds <;> rfl
    · cases ha
  · rename_i k x' hs hd hx
    have vx := cOpd_ok hG hx r he
    have hc := Option.some.inj hc
    subst hc
    simp only [aop] at ha
    split at ha
    · rename_i k0 n hxv
      rw [hxv] at vx
      simp only [Option.some.injEq, Prod.mk.injEq] at ha
      obtain ⟨rfl, rfl⟩ := ha
      refine Does.pure (u := .string (Utf8.encode n)) ?_ r (VR.mk_str (utfEnc_ok n))
      rw [vx.int_inv]
      unfold convert
      simp only [Sem.run_bind, run_underlying hs, run_underlying hd, Result.andThen_ok]
      rfl
    · cases ha
  · rename_i x' hs hd hx
    have vx := cOpd_ok hG hx r he
    have hc := Option.some.inj hc
    subst hc
    simp only [aop] at ha
    split at ha
    · rename_i s hxv
      rw [hxv] at vx
      simp only [Option.some.injEq, Prod.mk.injEq] at ha
      obtain ⟨rfl, rfl⟩ := ha
      obtain ⟨bs, hbs, h2⟩ := vx.str_inv
      refine Does.pure (u := .string bs) ?_ r (VR.mk_str h2)
      rw [hbs]
      unfold convert
      simp only [Sem.run_bind, run_underlying hs, run_underlying hd, Result.andThen_ok]
      rfl
    · cases ha
  · rename_i el x' hs hd hx
    have vx := cOpd_ok hG hx r he
    split at hc
    · rename_i hu8
      have hc := Option.some.inj hc
      subst hc
      have hel : P.underlying el = some (.int .u8) := by
        unfold isU8 at hu8
        split at hu8
        · assumption
        · cases hu8
      simp only [aop] at ha
      split at ha
      · rename_i s hxv
        rw [hxv] at vx
        obtain ⟨bs, hbs, h2⟩ := vx.str_inv
        split at ha
        · simp only [Option.some.injEq, Prod.mk.injEq] at ha
          obtain ⟨rfl, rfl⟩ := ha
          obtain ⟨u, w', ρ', k1, k2⟩ := does_strBytes (P := P) (el := el) r h2
          refine ⟨u, w', ρ', ?_, k2⟩
          rw [hbs]
          unfold convert
          simp only [Sem.run_bind, run_underlying hs, run_underlying hd, Result.andThen_ok, run_underlying hel]
          exact k1
        · cases ha
      · cases ha
    · split at hc
      · rename_i hi32
        have hc := Option.some.inj hc
        subst hc
        have hel : P.underlying el = some (.int .i32) := by
          unfold isI32 at hi32
          split at hi32
          · assumption
          · cases hi32
        simp only [aop] at ha
        split at ha
        · rename_i s hxv
          rw [hxv] at vx
          obtain ⟨bs, hbs, h2⟩ := vx.str_inv
          split at ha
          · simp only [Option.some.injEq, Prod.mk.injEq] at ha
            obtain ⟨rfl, rfl⟩ := ha
            obtain ⟨u, w', ρ', k1, k2⟩ := does_strRunes (P := P) (el := el) r h2
            refine ⟨u, w', ρ', ?_, k2⟩
            rw [hbs]
            unfold convert
            simp only [Sem.run_bind, run_underlying hs, run_underlying hd, Result.andThen_ok, run_underlying hel]
            exact k1
          · cases ha
        · cases ha
      · cases hc
  · rename_i el el' x' hs hd hx
    have vx := cOpd_ok hG hx r he
    split at hc
    · rename_i hh
      obtain ⟨rfl, rfl, hu8⟩ := hh
      have hc := Option.some.inj hc
      subst hc
      have hel : P.underlying el = some (.int .u8) := by
        unfold isU8 at hu8
        split at hu8
        · assumption
        · cases hu8
      simp only [aop] at ha
      split at ha
      · rename_i b o n c hxv
        rw [hxv] at vx
        split at ha
        · cases ha
        rename_i hn0
        split at ha
        · rename_i cs t0 z0 hget
          simp only [Option.some.injEq, Prod.mk.injEq] at ha
          obtain ⟨rfl, rfl⟩ := ha
          have vx0 := vx
          obtain ⟨L, ad, cap, hL, hn, ho, _, _, hxs⟩ := vx.slice_inv
          have ho := ho.resolve_left (by omega)
          subst ho
          obtain ⟨w', q1, q2⟩ := run_stringish (P := P) (o := L.off + o) r hget hL
          refine ⟨_, w', ρ, ?_, Ren.le_refl ρ, q2, vx0⟩
          rw [hxs]
          unfold convert
          simp only [Sem.run_bind, run_underlying hs, Result.andThen_ok, run_underlying hel, beq_self_eq_true, q1, Sem.run_pure]
        · cases ha
      · cases ha
    · cases hc
  · rename_i el x' hs hd hx
    have vx := cOpd_ok hG hx r he
    split at hc
    · rename_i hu8
      have hc := Option.some.inj hc
      subst hc
      have hel : P.underlying el = some (.int .u8) := by
        unfold isU8 at hu8
        split at hu8
        · assumption
        · cases hu8
      have key : ∀ {v : V} {h' : Heap}, Does P Z ρ (Conv.bytesToString (a.eval x)) w v h' → Does P Z ρ (convert src dst (a.eval x)) w v h' := by
        rintro v h' ⟨u, w', ρ', k1, k2⟩
        refine ⟨u, w', ρ', ?_, k2⟩
        unfold convert
        simp only [Sem.run_bind, run_underlying hs, run_underlying hd, Result.andThen_ok]
        cases hp : a.eval x <;> rw [hp] at k1 <;> first
          | (simp only [run_underlying hel, Sem.run_bind, Result.andThen_ok]; exact k1)
          | (simp [Conv.bytesToString, stuck] at k1; done)
      simp only [aop] at ha
      split at ha
      · rename_i hxv
        rw [hxv] at vx
        simp only [Option.some.injEq, Prod.mk.injEq] at ha
        obtain ⟨rfl, rfl⟩ := ha
        exact key (does_bytesStr r vx (.inl ⟨rfl, rfl⟩))
      · rename_i b o n c hxv
        rw [hxv] at vx
        split at ha
        · rename_i cs hr
          simp only [Option.map_eq_some_iff, Prod.mk.injEq] at ha
          obtain ⟨s, hs', rfl, rfl⟩ := ha
          exact key (does_bytesStr r vx (.inr ⟨b, o, n, c, cs, s, rfl, hr, hs', rfl⟩))
        · cases ha
      · cases ha
    · split at hc
      · rename_i hi32
        have hc := Option.some.inj hc
        subst hc
        have hel : P.underlying el = some (.int .i32) := by
          unfold isI32 at hi32
          split at hi32
          · assumption
          · cases hi32
        have key : ∀ {v : V} {h' : Heap}, Does P Z ρ (Conv.runesToString (a.eval x)) w v h' → Does P Z ρ (convert src dst (a.eval x)) w v h' := by
          rintro v h' ⟨u, w', ρ', k1, k2⟩
          refine ⟨u, w', ρ', ?_, k2⟩
          unfold convert
          simp only [Sem.run_bind, run_underlying hs, run_underlying hd, Result.andThen_ok]
          cases hp : a.eval x <;> rw [hp] at k1 <;> first
            | (simp only [run_underlying hel, Sem.run_bind, Result.andThen_ok]; exact k1)
            | (simp [Conv.runesToString, stuck] at k1; done)
        simp only [aop] at ha
        split at ha
        · rename_i hxv
          rw [hxv] at vx
          simp only [Option.some.injEq, Prod.mk.injEq] at ha
          obtain ⟨rfl, rfl⟩ := ha
          exact key (does_runesStr r vx (.inl ⟨rfl, rfl⟩))
        · rename_i b o n c hxv
          rw [hxv] at vx
          split at ha
          · rename_i cs hr
            simp only [Option.map_eq_some_iff, Prod.mk.injEq] at ha
            obtain ⟨s, hs', rfl, rfl⟩ := ha
            exact key (does_runesStr r vx (.inr ⟨b, o, n, c, cs, s, rfl, hr, hs', rfl⟩))
          · cases ha
        · cases ha
      · cases hc
  · cases hc

end Go.Proofs.YthfbefjmenddkaaDoorA
