/- append, in both machines. -/
import Derived.Test.YthfbefjmenddkaaDoorA9
namespace Go.Proofs.YthfbefjmenddkaaDoorA
open Go

variable {P : Program} {Z : Base} {ρ : Ren} {h h' : Heap} {w : World} {a : Act} {e : List V} {v : V} {cf : ACall}

theorem VRL.bytesOf : ∀ {bs : List UInt8}, VRL ρ (bytesOf (bs.map UInt8.toNat)) (bs.map fun b => Value.int .u8 b.toNat)
  | [] => VRL.nil
  | _ :: _ => VRL.cons VR.mk_int VRL.bytesOf

theorem firstCells_string (bs : ByteArray) (z n : Nat) (w : World) : (Builtin.firstCells z n (.string bs)).run P w = .ok ((bs.extract 0 n).data.map fun b => .int .u8 b.toNat) w := rfl

theorem extract_take (bs : ByteArray) (n : Nat) : (bs.extract 0 n).data.toList = bs.data.toList.take n := by
  rw [ByteArray.data_extract, Array.toList_extract]
  simp

/-- The cells of a slice, read as a row: in whatever draw. -/
theorem first_slice {b o m z : Nat} {c : Option Nat} {p : Value} {cs : List V} (r : Rel Z ρ h w) (hp : VR ρ (.slice b o m c) p) (k : Nat) (hk : k ≤ m) (hr : h.read b o (k * z) = some cs) :
    cs.length = k * z ∧ ∃ us : Array Value, VRL ρ cs us.toList ∧ ∀ d, (Builtin.firstCells z k p).run P (atDrawn w d) = .ok us (atDrawn w d) := by
  obtain ⟨L, ad, cap, hL, hn, ho, _, _, rfl⟩ := hp.slice_inv
  obtain ⟨us, h2, h3, h4⟩ := r.read hL hr
  have hlen : cs.length = k * z := by rw [← h3.length, h2]
  refine ⟨hlen, us.toArray, by simpa using h3, fun d => ?_⟩
  by_cases hm : k * z = 0
  · have hus : us = [] := List.length_eq_zero_iff.1 (by omega)
    subst hus
    unfold Builtin.firstCells
    rw [hm]
    rfl
  · have ho := ho.resolve_left (by
      intro hc
      subst hc
      have : k = 0 := by omega
      subst this
      simp at hm)
    subst ho
    have := run_loadCells_list (P := P) (atDrawn w d) ⟨L.block, L.off + o, none⟩ us (fun j u hj => by rw [addr_add]; exact h4 j u hj)
    rw [h2] at this
    exact this

theorem added_ok {z n : Nat} {x : V} {p : Value} {xs : List V} (r : Rel Z ρ h w) (hp : VR ρ x p) (hx : added h z x = some (xs, n)) :
    (∀ w, (Builtin.lenOf p).run P w = .ok n w) ∧ xs.length = n * z ∧ ∃ us : Array Value, VRL ρ xs us.toList ∧ ∀ d, (Builtin.firstCells z n p).run P (atDrawn w d) = .ok us (atDrawn w d) := by
  unfold added at hx
  split at hx
  · rename_i s
    obtain ⟨bs, rfl, rfl⟩ := hp.str_inv
    split at hx
    · rename_i hz
      subst hz
      simp only [Option.some.injEq, Prod.mk.injEq, List.length_map] at hx
      obtain ⟨rfl, rfl⟩ := hx
      refine ⟨fun w => by rw [← ba_size]; rfl, by simp [bytesOf], _, ?_, fun d => firstCells_string bs 1 _ _⟩
      rw [Array.toList_map, extract_take, List.take_length]
      exact VRL.bytesOf
    · cases hx
  · simp only [Option.some.injEq, Prod.mk.injEq] at hx
    obtain ⟨rfl, rfl⟩ := hx
    simp only [VR] at hp
    subst hp
    exact ⟨fun w => rfl, by simp, #[], VRL.nil, fun d => rfl⟩
  · rename_i b o m c
    cases hr : h.read b o (m * z) with
    | none => simp [hr] at hx
    | some cs =>
      simp only [hr, Option.map_some, Option.some.injEq, Prod.mk.injEq] at hx
      obtain ⟨rfl, rfl⟩ := hx
      obtain ⟨h1, us, h2, h3⟩ := first_slice (P := P) r hp m (Nat.le_refl _) hr
      obtain ⟨L, ad, cap, hL, hn, ho, _, _, rfl⟩ := hp.slice_inv
      exact ⟨fun w => rfl, h1, us, h2, h3⟩
  · cases hx

theorem vr_new {b n c : Nat} {L : Loc} (hb : ρ b = some L) (hn : n ≤ c) (hr : c * L.esz ≤ L.room) {ad : Addr} (had : ad = ⟨L.block, L.off, none⟩) : VR ρ (.slice b 0 n none) (.slice (some ad) n c) := by
  subst had
  simp only [VR]
  exact ⟨L, _, c, hb, hn, .inr ⟨rfl, by omega⟩, rfl⟩

theorem does_core {el : TypeId} {z n bt : Nat} {s : V} {p x : Value} {zb : Bool} {xs : List V} {us : Array Value} {app : Sem (Array Value)} {zero : List V} {v : V} {ap : Sem Value} (r : Rel Z ρ h w) (hp : VR ρ s p) (hxs : VRL ρ xs us.toList) (hxl : xs.length = n * z) (hz0 : z ≠ 0)
    (happ : ∀ d, app.run P (atDrawn w d) = .ok us (atDrawn w d)) (hbt : bytesA P el = some bt) (hzero : zeroA P el = some zero) (hzl : zero.length = z)
    (hap : ∀ base l c, p = .slice base l c → ap.run P w = (appendCore base l c n z el x zb app).run P w)
    (ha : appendXs h el z bt s xs n = some (v, h')) : Does P Z ρ ap w v h' := by
  have happ0 := happ w.drawn
  have e0 : atDrawn w w.drawn = w := rfl
  rw [e0] at happ0
  have husl : us.toList.length = n * z := by rw [hxs.length, hxl]
  unfold appendXs at ha
  split at ha
  · -- a nil slice
    simp only [VR] at hp
    subst hp
    have hap := hap none 0 0 rfl
    split at ha
    · rename_i hn
      subst hn
      simp only [Option.some.injEq, Prod.mk.injEq] at ha
      obtain ⟨rfl, rfl⟩ := ha
      exact Does.pure (u := .slice none 0 0) (by rw [hap]; exact core_room (Nat.le_refl _) happ0 rfl) r (by simp only [VR])
    · rename_i hn
      split at ha
      · rename_i hm
        simp only [Option.some.injEq, Prod.mk.injEq] at ha
        obtain ⟨rfl, rfl⟩ := ha
        obtain ⟨cap, rest, h1, h2, h3⟩ := core_new (P := P) (w := w) (base := none) (l := 0) (c := 0) (n := n) (z := z) (x := x) (zb := zb) (s := app) (new := us) (old := #[]) (by omega) hbt hzero (by rw [Nat.zero_add]; exact hm.1) (by rw [Nat.zero_add]; exact hm.2) (fun d => rfl) happ
        rw [← hap] at h3
        simp only [Nat.zero_add, List.nil_append] at h1 h2 h3
        refine Does.alloc (esz := z) (rest := rest) r hxs h3 (fz0 _) (fun ρ' hρ => vr_new hρ h1 ?_ rfl)
        rw [h2, hzl, husl]
        show cap * z ≤ n * z + (cap - n) * z
        rw [← Nat.add_mul]
        exact Nat.mul_le_mul_right z (by omega)
      · cases ha
  · -- known what it holds
    rename_i b o l c
    obtain ⟨L, ad, cap, hL, hn, _, hk, _, rfl⟩ := hp.slice_inv
    obtain ⟨rfl, rfl⟩ := hk c rfl
    have hap := hap _ l cap rfl
    split at ha
    · rename_i hle
      split at ha
      · rename_i hn0
        subst hn0
        simp only [Option.some.injEq, Prod.mk.injEq] at ha
        obtain ⟨rfl, rfl⟩ := ha
        have hus : us.toList = [] := List.length_eq_zero_iff.1 (by rw [husl]; simp)
        refine Does.pure (u := .slice (some ⟨L.block, L.off + o, none⟩) (l + 0) cap) (by rw [hap]; exact core_room hle happ0 (by rw [hus]; rfl)) r hp
      · rename_i hn0
        split at ha
        · rename_i h1 hw
          simp only [Option.some.injEq, Prod.mk.injEq] at ha
          obtain ⟨rfl, rfl⟩ := ha
          obtain ⟨L', hL', w', k1, k2⟩ := r.write (P := P) hw hxs
          have el : L' = L := Option.some.inj (hL'.symm.trans hL)
          subst el
          refine ⟨_, w', ρ, by rw [hap]; exact core_room hle happ0 (by
            show (storeCells ((⟨L'.block, L'.off + o, none⟩ : Addr).add (l * z)) us.toList).run P w = _
            rw [addr_add, Nat.add_assoc]; exact k1), Ren.le_refl ρ, k2, VR.mk_slice hL hle rfl⟩
        · cases ha
    · rename_i hgt
      split at ha
      · rename_i hm
        split at ha
        · rename_i old hr
          simp only [Option.some.injEq, Prod.mk.injEq] at ha
          obtain ⟨rfl, rfl⟩ := ha
          obtain ⟨hol, olds, k1, k2⟩ := first_slice (P := P) r hp l (Nat.le_refl _) hr
          obtain ⟨cap', rest, h1, h2, h3⟩ := core_new (P := P) (w := w) (n := n) (z := z) (x := x) (zb := zb) (s := app) (new := us) (old := olds) hgt hbt hzero hm.1 hm.2 k2 happ
          rw [← hap] at h3
          have hol' : olds.toList.length = l * z := by rw [k1.length, hol]
          refine Does.alloc (esz := z) (us := olds.toList ++ us.toList) (rest := rest) r (k1.append hxs) h3 (fz0 _) (fun ρ' hρ => vr_new hρ h1 ?_ rfl)
          rw [h2, hzl, List.length_append, husl, hol']
          show cap' * z ≤ l * z + n * z + (cap' - (l + n)) * z
          rw [← Nat.add_mul, ← Nat.add_mul]
          exact Nat.mul_le_mul_right z (by omega)
        · cases ha
      · cases ha
  · -- it holds as much as its block has room
    rename_i b o l
    split at ha
    · rename_i hn0
      subst hn0
      simp only [Option.some.injEq, Prod.mk.injEq] at ha
      obtain ⟨rfl, rfl⟩ := ha
      have hp0 := hp
      obtain ⟨L, ad, cap, hL, hn, _, _, _, rfl⟩ := hp.slice_inv
      have hap := hap _ l cap rfl
      have hus : us.toList = [] := List.length_eq_zero_iff.1 (by rw [husl]; simp)
      refine Does.pure (u := .slice (some ad) (l + 0) cap) (by rw [hap]; exact core_room (by omega) happ0 (by rw [hus]; rfl)) r hp0
    · rename_i hn0
      split at ha
      · rename_i hm
        split at ha
        · rename_i cs t z' old hget hr
          split at ha
          · rename_i hh
            obtain ⟨rfl, rfl, hone, _⟩ := hh
            simp only [Option.some.injEq, Prod.mk.injEq] at ha
            obtain ⟨rfl, rfl⟩ := ha
            obtain ⟨hol, olds, k1, k2⟩ := first_slice (P := P) r hp l (Nat.le_refl _) hr
            obtain ⟨L, ad, cap, hL, hn, ho, _, hroom, rfl⟩ := hp.slice_inv
            have hap := hap _ l cap rfl
            have hol' : olds.toList.length = l * z' := by rw [k1.length, hol]
            by_cases hle : l + n ≤ cap
            · -- there is room: the block is written, and goes on under a new number
              have ho := ho.resolve_left (by omega)
              subst ho
              have hroom := (hroom rfl).resolve_left (by omega)
              obtain ⟨L', hL', cur, fz, hu, hrm, hsz, hez, hown, hcs⟩ := r.live b _ hget
              have eL : L' = L := Option.some.inj (hL'.symm.trans hL)
              subst eL
              rw [hez] at hroom
              have hmul : l * z' + n * z' ≤ cap * z' := by rw [← Nat.add_mul]; exact Nat.mul_le_mul_right z' hle
              have hst := run_cells_out P L'.block (L'.off + o + l * z') t fz us.toList 0 cur w hu (fun j h1 h2 => frozen_out (hown rfl).2 (by omega)) (by omega) (by
                intro u hu'
                obtain ⟨i, hi⟩ := List.mem_iff_getElem?.1 hu'
                cases hv : xs[i]? with
                | none =>
                  have := List.getElem?_eq_none_iff.1 hv
                  rw [List.getElem?_eq_none (by omega)] at hi; cases hi
                | some v =>
                  obtain ⟨u', h1, h2⟩ := hxs.get hv
                  have eu : u' = u := Option.some.inj (h1.symm.trans hi)
                  subst eu
                  exact h2.oneCell (List.all_eq_true.1 hone v (List.mem_of_getElem? hv)))
              simp only [Nat.add_zero] at hst
              have hrun := core_room (x := x) (zb := zb) (el := t) hle happ0 (base := some ⟨L'.block, L'.off + o, none⟩) (by
                show (storeCells ((⟨L'.block, L'.off + o, none⟩ : Addr).add (l * z')) us.toList).run P w = _
                rw [addr_add]; exact hst)
              rw [← hap] at hrun
              let L2 : Loc := ⟨L'.block, L'.off + o, L'.room - o, z'⟩
              have hKb : Z.K L'.block = none := (hown rfl).1
              have hr2 := (r.kill b).add (B := .cells (old ++ xs) t z' true) (L := L2) (w' := w.setRow L'.block (cur.toList.take (L'.off + o + l * z') ++ us.toList ++ cur.toList.drop (L'.off + o + l * z' + us.toList.length)).toArray)
                rfl rfl rfl (fun k ob hk => by rw [setRow_other w L'.block k _ (fun e => by subst e; rw [hKb] at hk; cases hk)]; exact r.keep k ob hk)
                (fun k hk _ => setRow_other w L'.block k _ hk)
                (fun i B' Li hi hLi hE => by
                  rw [Heap.get_set] at hi
                  by_cases ei : i = b
                  · rw [if_pos ei] at hi; cases hi
                  · rw [if_neg ei] at hi; exact ei (r.inj1 hi hget hLi hL hE rfl))
                (by
                  refine ⟨_, fz, setRow_heap w L'.block cur _ t fz hu, ?_, ?_, rfl, fun _ => ⟨hKb, ?_⟩, ?_⟩
                  · show (old ++ xs).length ≤ L'.room - o
                    rw [List.length_append, hol, hxl]; omega
                  · show L'.off + o + (L'.room - o) ≤ _
                    simp; omega
                  · have := (hown rfl).2
                    simp
                    have e3 : us.size = us.toList.length := by simp
                    omega
                  · intro i v hi
                    have hle' : ρ.le (ρ.upd h.next L2) := Ren.le_upd r.fresh L2
                    rw [List.getElem?_toArray, get_over cur.toList (L'.off + o + l * z') us.toList _ (by have := Array.length_toList (xs := cur); omega)]
                    show ∃ u, (if L'.off + o + i < L'.off + o + l * z' then cur.toList[L'.off + o + i]? else if L'.off + o + i < L'.off + o + l * z' + us.toList.length then us.toList[L'.off + o + i - (L'.off + o + l * z')]? else cur.toList[L'.off + o + i]?) = some u ∧ _
                    by_cases h1 : i < l * z'
                    · rw [List.getElem?_append_left (by omega)] at hi
                      rw [if_pos (by omega)]
                      unfold Heap.read at hr
                      rw [if_neg (by omega), hget] at hr
                      simp only at hr
                      split at hr
                      · have hr := Option.some.inj hr
                        rw [← hr, List.getElem?_take_of_lt h1, List.getElem?_drop] at hi
                        obtain ⟨u, q1, q2⟩ := hcs (o + i) v hi
                        exact ⟨u, by rw [Array.getElem?_toList, ← q1]; congr 1; omega, q2.mono hle' _ _⟩
                      · cases hr
                    · rw [List.getElem?_append_right (by omega), hol] at hi
                      obtain ⟨u, q1, q2⟩ := hxs.get hi
                      have hlt : i - l * z' < us.toList.length := by
                        rcases Nat.lt_or_ge (i - l * z') us.toList.length with h' | h'
                        · exact h'
                        · rw [List.getElem?_eq_none h'] at q1; cases q1
                      rw [if_neg (by omega), if_pos (by omega)]
                      exact ⟨u, by rw [← q1]; congr 1; omega, q2.mono hle' _ _⟩)
              refine ⟨_, _, _, hrun, Ren.le_upd r.fresh L2, hr2, ?_⟩
              have hρ : (ρ.upd h.next L2) h.next = some L2 := by simp [Ren.upd]
              refine vr_new hρ hle ?_ rfl
              show cap * z' ≤ L'.room - o
              omega
            · obtain ⟨cap', rest, h1, h2, h3⟩ := core_new (P := P) (w := w) (n := n) (z := z') (x := x) (zb := zb) (s := app) (new := us) (old := olds) hle hbt hzero hm.1 hm.2 k2 happ
              rw [← hap] at h3
              have hd := Does.alloc (P := P) (esz := z') (us := olds.toList ++ us.toList) (rest := rest) (x := .slice h.next 0 (l + n) none) (r.kill b) (k1.append hxs) h3 (fz0 _) (fun ρ' hρ => vr_new hρ h1 (by
                rw [h2, hzl, List.length_append, husl, hol']
                show cap' * z' ≤ l * z' + n * z' + (cap' - (l + n)) * z'
                rw [← Nat.add_mul, ← Nat.add_mul]
                exact Nat.mul_le_mul_right z' (by omega)) rfl)
              exact hd
          · cases ha
        · cases ha
      · cases ha
  · cases ha

end Go.Proofs.YthfbefjmenddkaaDoorA
