/- Copies, makes, parts, iterators. -/
import Derived.Test.YthfbefjmenddkaaDoorA11
namespace Go.Proofs.YthfbefjmenddkaaDoorA
open Go

variable {P : Program} {Z : Base} {ρ : Ren} {h h' : Heap} {w : World} {a : Act} {e : List V} {v : V} {cf : ACall}

theorem runesFrom_acc (s : ByteArray) : ∀ (f i : Nat) (acc : Array Value), (Conv.runesFrom s f i acc).toList = acc.toList ++ (Conv.runesFrom s f i #[]).toList
  | 0, _, acc => by simp [Conv.runesFrom]
  | f + 1, i, acc => by
    unfold Conv.runesFrom
    split
    · simp only
      rw [runesFrom_acc s f _ (acc.push _), runesFrom_acc s f _ (#[].push _)]
      simp
    · simp

theorem runesDec_ok (bs : ByteArray) : ∀ (f i : Nat), VRL ρ (runesDec (bs.data.toList.map UInt8.toNat) f i) (Conv.runesFrom bs f i #[]).toList
  | 0, _ => by simp [runesDec, Conv.runesFrom, VRL]
  | f + 1, i => by
    unfold runesDec Conv.runesFrom
    have hl : (bs.data.toList.map UInt8.toNat).length = bs.size := by rw [List.length_map, ← ba_size]
    by_cases hi : i < bs.size
    · rw [if_pos (by rw [hl]; exact hi), if_pos hi, ← utfDec_ok bs i hi]
      simp only
      rw [runesFrom_acc]
      exact VRL.append (vs := [_]) (VRL.cons VR.mk_int VRL.nil) (runesDec_ok bs f _)
    · rw [if_neg (by rw [hl]; exact hi), if_neg hi]
      simp [VRL]

theorem does_strRunes {el : TypeId} {s : List Nat} {bs : ByteArray} (r : Rel Z ρ h w) (hs : bs.data.toList.map UInt8.toNat = s) :
    Does P Z ρ (Conv.stringToRunes el bs) w (.slice h.next 0 (runesDec s s.length 0).length none) (h.new (.cells (runesDec s s.length 0) el 1 true)) := by
  subst hs
  have hv : VRL ρ (runesDec (bs.data.toList.map UInt8.toNat) (bs.data.toList.map UInt8.toNat).length 0) (Conv.runesFrom bs bs.size 0 #[]).toList := by
    rw [List.length_map, ← ba_size]
    exact runesDec_ok bs bs.size 0
  have hlen := hv.length
  generalize hE : Conv.runesFrom bs bs.size 0 #[] = E at hv hlen
  let c := Question.cut (.appendCap E.size 0 el) (w.tape w.drawn (.appendCap E.size 0 el))
  have hcap : E.size ≤ c := by show E.size ≤ E.size + _; omega
  have hforced : Question.forced (.appendCap E.size 0 el) = false := rfl
  refine Does.alloc (us := E.toList) (rest := List.replicate (c - E.size) (.int .i32 0)) (esz := 1) (fz := (0, 0)) (n := w.drawn + 1) (u := .slice (some ⟨w.heap.size, 0, none⟩) E.size c) r hv ?_ (fz0 _) (fun ρ' hρ => ?_)
  · unfold Conv.stringToRunes
    have ea : (E.toList ++ List.replicate (c - E.size) (Value.int .i32 0)).toArray = E ++ Array.replicate (c - E.size) (.int .i32 0) := by simp
    rw [ea]
    simp only [hE, Sem.run_bind, run_choose, hforced, Bool.false_eq_true, if_false, Result.andThen_ok, newRow, run_newObj, Sem.run_pure]
    rfl
  · rw [← hlen, Array.length_toList]
    exact vr_new hρ hcap (by simp; omega) rfl

theorem modify_push {α : Type} (xs : Array α) (x : α) (f : α → α) : (xs.push x).modify xs.size f = xs.push (f x) := by
  apply Array.ext
  · simp
  · intro i h1 h2
    rw [Array.getElem_modify]
    by_cases hi : xs.size = i
    · subst hi; simp
    · rw [if_neg hi]
      have hlt : i < xs.size := by simp at h2; omega
      rw [Array.getElem_push_lt hlt, Array.getElem_push_lt hlt]

theorem does_strBytes {el : TypeId} {s : List Nat} {bs : ByteArray} (r : Rel Z ρ h w) (hs : bs.data.toList.map UInt8.toNat = s) :
    Does P Z ρ (Conv.stringToBytes el bs) w (.slice h.next 0 s.length none) (h.new (.cells (bytesOf s) el 1 true)) := by
  subst hs
  let c := Question.cut (.appendCap bs.size 0 el) (w.tape w.drawn (.appendCap bs.size 0 el))
  have hcap : bs.size ≤ c := by show bs.size ≤ bs.size + _; omega
  have hforced : Question.forced (.appendCap bs.size 0 el) = false := rfl
  have hlen : (bs.data.toList.map fun b => Value.int .u8 b.toNat).length = bs.size := by rw [List.length_map, ← ba_size]
  refine Does.alloc (us := bs.data.toList.map fun b => Value.int .u8 b.toNat) (rest := List.replicate (c - bs.size) (.int .u8 0)) (esz := 1) (fz := (c, c + 1)) (n := w.drawn + 1) (u := .slice (some ⟨w.heap.size, 0, none⟩) bs.size c) r VRL.bytesOf ?_ ?_ (fun ρ' hρ => ?_)
  · have ea : ((bs.data.toList.map fun b => Value.int .u8 b.toNat) ++ List.replicate (c - bs.size) (Value.int .u8 0)).toArray = (bs.data.map fun b => Value.int .u8 b.toNat) ++ Array.replicate (c - bs.size) (.int .u8 0) := by
      apply Array.toList_inj.1; simp
    have es : ((bs.data.map fun b => Value.int .u8 b.toNat) ++ Array.replicate (c - bs.size) (Value.int .u8 0)).size = c := by
      rw [Array.size_append, Array.size_map, Array.size_replicate]
      show bs.size + (c - bs.size) = c
      omega
    rw [ea]
    unfold Conv.stringToBytes
    simp only [Sem.run_bind, run_choose, hforced, Bool.false_eq_true, if_false, Result.andThen_ok, newRow, run_newObj, Sem.run_pure]
    show (Result.andThen (Sem.run P (markStringish ⟨w.heap.size, 0, none⟩) { w with heap := w.heap.push (.cells ((bs.data.map fun b => Value.int .u8 b.toNat) ++ Array.replicate (c - bs.size) (Value.int .u8 0)) el (0, 0)), drawn := w.drawn + 1 }) _) = _
    generalize (bs.data.map fun b => Value.int .u8 b.toNat) ++ Array.replicate (c - bs.size) (Value.int .u8 0) = C at es
    rw [← es]
    have hm : (markStringish ⟨w.heap.size, 0, none⟩).run P { w with heap := w.heap.push (.cells C el (0, 0)), drawn := w.drawn + 1 } = .ok () { w with heap := w.heap.push (.cells C el (C.size, C.size + 1)), drawn := w.drawn + 1 } := by
      unfold markStringish
      simp only [Sem.run_bind, run_shape, World.shape?, Array.getElem?_push_size, Result.andThen_ok, run_freeze, World.freeze, Nat.one_ne_zero, if_false]
      rw [modify_push]
      simp
    rw [hm, es]
    rfl
  · refine .inr ?_
    rw [hlen, List.length_replicate]
    show bs.size + (c - bs.size) ≤ c
    omega
  · rw [List.length_map, ← ba_size]
    exact vr_new hρ hcap (by simp only [hlen, List.length_replicate]; omega) rfl

theorem run_copyV {argTypes : Array TypeId} {t el ty : TypeId} {z : Nat} {d s : V} {p q : Value} {v : V} (r : Rel Z ρ h w) (h0 : argTypes[0]? = some t) (ht : P.underlying t = some (.slice el)) (hz : sizeA P el = some z)
    (hp : VR ρ d p) (hq : VR ρ s q) (hc : copyV h z d s = some (v, h')) : Does P Z ρ (Builtin.copy_ argTypes ty #[p, q]) w v h' := by
  have hu : ∀ w, (underlying t).run P w = .ok (.slice el) w := run_underlying ht
  have key : ∀ (base : Option Addr) (dl dc sl : Nat) (us : Array Value) (w' : World), p = .slice base dl dc → (Builtin.lenOf q).run P w = .ok sl w → (Builtin.firstCells z (min sl dl) q).run P w = .ok us w →
      (match base with
        | some a => storeCells a us.toList
        | none => Pure.pure () : Sem Unit).run P w = .ok () w' → (Builtin.copy_ argTypes ty #[p, q]).run P w = .ok (.int .i64 (min sl dl : Nat)) w' := by
    intro base dl dc sl us w' hp h1 h2 h3
    subst hp
    unfold Builtin.copy_
    have hmin : Nat.min sl dl = min sl dl := rfl
    cases base with
    | none =>
      simp only [Sem.run_pure, Result.ok.injEq, true_and] at h3
      subst h3
      simp only [h0, List.getElem?_toArray, List.getElem?_cons_zero, List.getElem?_cons_succ, Sem.run_bind, hu, Result.andThen_ok, h1, run_sizeA hz, hmin, h2, Sem.run_pure]
      rfl
    | some a =>
      simp only at h3
      simp only [h0, List.getElem?_toArray, List.getElem?_cons_zero, List.getElem?_cons_succ, Sem.run_bind, hu, Result.andThen_ok, h1, run_sizeA hz, hmin, h2, h3, Sem.run_pure]
      rfl
  unfold copyV at hc
  split at hc
  · simp only [Option.some.injEq, Prod.mk.injEq] at hc
    obtain ⟨rfl, rfl⟩ := hc
    simp only [VR] at hp hq
    subst hp; subst hq
    exact Does.pure (key none 0 0 0 #[] w rfl rfl rfl rfl) r VR.mk_int
  · simp only [Option.some.injEq, Prod.mk.injEq] at hc
    obtain ⟨rfl, rfl⟩ := hc
    simp only [VR] at hp
    subst hp
    obtain ⟨L, ad, cap, hL, hn, _, _, _, rfl⟩ := hq.slice_inv
    refine Does.pure (u := .int .i64 0) ?_ r VR.mk_int
    have := key none 0 0 _ #[] w rfl rfl (by rw [Nat.min_zero]; simp [Builtin.firstCells, loadCells, loadCellsFrom]) rfl
    rw [Nat.min_zero] at this
    exact this
  · simp only [Option.some.injEq, Prod.mk.injEq] at hc
    obtain ⟨rfl, rfl⟩ := hc
    simp only [VR] at hq
    subst hq
    obtain ⟨L, ad, cap, hL, hn, _, _, _, rfl⟩ := hp.slice_inv
    refine Does.pure (u := .int .i64 0) ?_ r VR.mk_int
    have := key (some ad) _ cap 0 #[] w rfl rfl (by rw [Nat.zero_min]; rfl) rfl
    rw [Nat.zero_min] at this
    exact this
  · rename_i b o n c b' o2 n' c'
    split at hc
    · rename_i cs hr
      obtain ⟨hl, us, k1, k2⟩ := first_slice (P := P) r hq (min n' n) (Nat.min_le_left _ _) hr
      have k2 := k2 w.drawn
      have e0 : atDrawn w w.drawn = w := rfl
      rw [e0] at k2
      obtain ⟨Ls, ads, caps, _, _, _, _, _, rfl⟩ := hq.slice_inv
      obtain ⟨L, ad, cap, hL, hn, ho, _, _, rfl⟩ := hp.slice_inv
      split at hc
      · rename_i hm
        simp only [Option.some.injEq, Prod.mk.injEq] at hc
        obtain ⟨rfl, rfl⟩ := hc
        have hus : us.toList = [] := List.length_eq_zero_iff.1 (by rw [k1.length, hl, hm])
        exact Does.pure (key _ n cap n' us w rfl rfl k2 (by rw [hus]; rfl)) r VR.mk_int
      · rename_i hm
        simp only [Option.map_eq_some_iff, Prod.mk.injEq] at hc
        obtain ⟨h1, hw, rfl, rfl⟩ := hc
        have ho := ho.resolve_left (by
          intro hc
          subst hc
          have hn' : n = 0 := by omega
          subst hn'
          simp at hm)
        subst ho
        obtain ⟨L', hL', w', q1, q2⟩ := r.write (P := P) hw k1
        have el : L' = L := Option.some.inj (hL'.symm.trans hL)
        subst el
        exact ⟨_, w', ρ, key _ n cap n' us w' rfl rfl k2 q1, Ren.le_refl ρ, q2, VR.mk_int⟩
    · cases hc
  · rename_i b o n c s
    split at hc
    · rename_i hz1
      subst hz1
      obtain ⟨bs, rfl, rfl⟩ := hq.str_inv
      obtain ⟨L, ad, cap, hL, hn, ho, _, _, rfl⟩ := hp.slice_inv
      have hfc := firstCells_string (P := P) bs 1 (min bs.size n) w
      have hlen : (Builtin.lenOf (.string bs)).run P w = .ok bs.size w := rfl
      have hsl : (bs.data.toList.map UInt8.toNat).length = bs.size := by rw [List.length_map, ← ba_size]
      have hcells : ((bs.extract 0 (min bs.size n)).data.map fun b => Value.int .u8 b.toNat).toList = (bs.data.toList.take n).map fun b => Value.int .u8 b.toNat := by
        rw [Array.toList_map, extract_take]
        congr 1
        rw [ba_size, List.take_eq_take_iff]
        omega
      split at hc
      · rename_i hm
        simp only [Option.some.injEq, Prod.mk.injEq] at hc
        obtain ⟨rfl, rfl⟩ := hc
        rw [hsl] at hm
        refine Does.pure (u := .int .i64 0) ?_ r VR.mk_int
        have := key _ n cap bs.size _ w rfl hlen hfc (by
          rw [hcells]
          have : bs.data.toList.take n = [] := by
            rw [List.take_eq_nil_iff]
            rcases Nat.eq_zero_or_pos n with h0 | h0
            · exact .inl h0
            · refine .inr (List.length_eq_zero_iff.1 ?_)
              rw [← ba_size]; omega
          rw [this]; rfl)
        rw [hm] at this
        exact this
      · rename_i hm
        simp only [Option.map_eq_some_iff, Prod.mk.injEq] at hc
        obtain ⟨h1, hw, rfl, rfl⟩ := hc
        rw [hsl] at hm ⊢
        have ho := ho.resolve_left (by omega)
        subst ho
        have hv : VRL ρ (bytesOf ((bs.data.toList.map UInt8.toNat).take n)) ((bs.data.toList.take n).map fun b => Value.int .u8 b.toNat) := by
          rw [← List.map_take]; exact VRL.bytesOf
        obtain ⟨L', hL', w', q1, q2⟩ := r.write (P := P) hw hv
        have el : L' = L := Option.some.inj (hL'.symm.trans hL)
        subst el
        exact ⟨_, w', ρ, key _ n cap bs.size _ w' rfl hlen hfc (by rw [hcells]; exact q1), Ren.le_refl ρ, q2, VR.mk_int⟩
    · cases hc
  · cases hc

end Go.Proofs.YthfbefjmenddkaaDoorA
