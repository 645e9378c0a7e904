/- Rows of operations whose order is not fixed: symbolic runs. -/
import Derived.Test.YthfbefjmenddkaaDoorA34
namespace Go.Proofs.YthfbefjmenddkaaDoorA
open Go
set_option linter.unusedVariables false
set_option linter.unusedSimpArgs false
noncomputable section

variable {cf : ACall} {N : Nat} {e : Env} {h h' : Heap}

mutual
theorem sameV_refl : ∀ v : V, sameV v v = true
  | .bool _ => by simp [sameV]
  | .int _ _ => by simp [sameV]
  | .str _ => by simp [sameV]
  | .nilptr => by simp [sameV]
  | .ptr _ _ => by simp [sameV]
  | .nilslice => by simp [sameV]
  | .slice _ _ _ _ => by simp [sameV]
  | .func _ p q => by simp [sameV, sameL_refl p, sameL_refl q]
  | .nilfunc => by simp [sameV]
  | .iface _ v => by simp [sameV, sameV_refl v]
  | .niliface => by simp [sameV]
  | .agg l => by simp [sameV, sameL_refl l]
  | .tuple l => by simp [sameV, sameL_refl l]
theorem sameL_refl : ∀ l : List V, sameL l l = true
  | [] => by simp [sameL]
  | v :: vs => by simp [sameL, sameV_refl v, sameL_refl vs]
end

def consT (cf : ACall) (o : AOper) (os : List AOper) (e : Env) (x : Option (V × Heap)) : Option (List It) := match x with
  | none => none
  | some (v, h') => match traceA cf os (put e o.dst v) h' with
    | none => none
    | some l => some (⟨o, v, h'⟩ :: l)
def mapT (i : It) (x : Option (List It)) : Option (List It) := match x with
  | none => none
  | some l => some (i :: l)
def gval (q : Bool) (x : Option (V × Heap)) (h : Heap) : Option (V × Heap) := bif q then x else some (.undef, h)
theorem gval_true (x : Option (V × Heap)) (h : Heap) : gval true x h = x := rfl
theorem gval_false (x : Option (V × Heap)) (h : Heap) : gval false x h = some (.undef, h) := rfl
theorem gval_some (q : Bool) (v : V) (h : Heap) : gval q (some (v, h)) h = some (gdv q v, h) := by cases q <;> rfl
theorem gval_congr {q q' : Bool} {x x' : Option (V × Heap)} {h : Heap} (hq : q = q') (hx : q' = true → x = x') : gval q x h = gval q' x' h := by
  subst hq; cases q
  · rfl
  · rw [hx rfl]
theorem traceA_nil (e : Env) (h : Heap) : traceA cf [] e h = some [] := rfl
theorem traceA_cons (o : AOper) (os : List AOper) (e : Env) (h : Heap) : traceA cf (o :: os) e h = consT cf o os e (stepV cf o e h) := by
  simp only [traceA, consT]
  cases stepV cf o e h with
  | none => rfl
  | some p => rfl
theorem consT_some (o : AOper) (os : List AOper) (e : Env) (v : V) (h' : Heap) : consT cf o os e (some (v, h')) = mapT ⟨o, v, h'⟩ (traceA cf os (put e o.dst v) h') := by
  simp only [consT, mapT]
theorem mapT_some (i : It) (l : List It) : mapT i (some l) = some (i :: l) := rfl
theorem stepV_none (d : Option Nat) (op : AOp) (e : Env) (h : Heap) : stepV cf ⟨d, op, none⟩ e h = aop cf op e h := by
  rw [stepV_eq]; rfl
theorem stepV_guard (d : Option Nat) (op : AOp) (t : Nat) (w : Bool) (e : Env) (h : Heap) : stepV cf ⟨d, op, some (t, w)⟩ e h = gval (wantV (e.at t) w) (aop cf op e h) h := by
  have hw : wantedA (some (t, w)) e = wantV (e.at t) w := by
    unfold wantedA wantV
    dsimp only
    cases e.at t <;> rfl
  rw [stepV_eq]
  simp only [hw, gval]
  cases wantV (e.at t) w <;> rfl

def anyS (cf : ACall) (e : Env) (h : Heap) (chk : List (Nat × Nat)) (x : Option (List It)) : Out := match x with
  | some l => bif chkOk cf l e h chk then some (.normal, envL (fun _ => true) 0 l e, heapL (fun _ => true) 0 l h) else none
  | none => none
theorem exec_any (ops : List AOper) (chk : List (Nat × Nat)) (e : Env) (h : Heap) : execA cf N (.anyRegion ops chk) e h = anyS cf e h chk (traceA cf ops e h) := by
  simp only [execA, anyS]
  cases traceA cf ops e h with
  | none => rfl
  | some l => simp only; cases chkOk cf l e h chk <;> rfl
theorem anyS_some (e : Env) (h : Heap) (chk : List (Nat × Nat)) (l : List It) : anyS cf e h chk (some l) = bif chkOk cf l e h chk then some (.normal, envL (fun _ => true) 0 l e, heapL (fun _ => true) 0 l h) else none := rfl

def chk1 (cf : ACall) (l : List It) (e : Env) (h : Heap) (i b : Nat) : Bool := match l[i]? with
  | some x => match stepV cf x.o (envL (fun j => decide (j < i)) 0 l e) (heapB l h b) with
    | some (v, _) => sameV v x.v
    | none => false
  | none => false
theorem chkOk_nil (l : List It) (e : Env) (h : Heap) : chkOk cf l e h [] = true := rfl
theorem chkOk_cons (l : List It) (e : Env) (h : Heap) (i b : Nat) (cs : List (Nat × Nat)) : chkOk cf l e h ((i, b) :: cs) = (chk1 cf l e h i b && chkOk cf l e h cs) := rfl
def sameS (x : Option (V × Heap)) (v : V) : Bool := match x with
  | some (u, _) => sameV u v
  | none => false
theorem sameS_some (u v : V) (h : Heap) : sameS (some (u, h)) v = sameV u v := rfl
def chk2 (cf : ACall) (x : Option It) (e : Env) (h : Heap) : Bool := match x with
  | some x => sameS (stepV cf x.o e h) x.v
  | none => false
theorem chk2_some (x : It) (e : Env) (h : Heap) : chk2 cf (some x) e h = sameS (stepV cf x.o e h) x.v := rfl
theorem chk1_eq (l : List It) (e : Env) (h : Heap) (i b : Nat) : chk1 cf l e h i b = chk2 cf l[i]? (envL (fun j => decide (j < i)) 0 l e) (heapB l h b) := by
  unfold chk1 chk2
  cases l[i]? <;> rfl
theorem envL_nil (s : Nat → Bool) (k : Nat) (e : Env) : envL s k [] e = e := rfl
theorem envL_cons (s : Nat → Bool) (k : Nat) (o : AOper) (v : V) (h : Heap) (r : List It) (e : Env) : envL s k (⟨o, v, h⟩ :: r) e = envL s (k + 1) r (bif s k then put e o.dst v else e) := by
  simp only [envL]; cases s k <;> rfl
theorem heapL_nil (s : Nat → Bool) (k : Nat) (h : Heap) : heapL s k [] h = h := rfl
theorem heapL_cons (s : Nat → Bool) (k : Nat) (o : AOper) (v : V) (h' : Heap) (r : List It) (h : Heap) : heapL s k (⟨o, v, h'⟩ :: r) h = heapL s (k + 1) r (bif s k && isWriter o.op then h' else h) := by
  simp only [heapL]; cases s k <;> cases isWriter o.op <;> rfl
def heapO (x : Option It) (h : Heap) : Heap := match x with
  | some x => x.h
  | none => h
theorem heapO_some (o : AOper) (v : V) (h' h : Heap) : heapO (some ⟨o, v, h'⟩) h = h' := rfl
theorem heapB_zero (l : List It) (h : Heap) : heapB l h 0 = h := rfl
theorem heapB_succ (l : List It) (h : Heap) (b : Nat) : heapB l h (b + 1) = heapO l[b]? h := by
  unfold heapB heapO
  rfl

theorem Canon.pair {n0 : Nat} {h2 : Heap} {v v2 w : V} {τ : Nat → Nat × Nat} (c : Canon n0 h2 v2 h' v τ) (hw : V.lt 0 w) : Canon n0 h2 (.tuple [v2, w]) h' (.tuple [v, w]) τ :=
  ⟨c.old, c.le, c.live, c.inj, by
    simp only [VC_tuple, VCL_cons, VCL_nil, and_true]
    exact ⟨c.val, VC.refl (n0 := 0) (fun b hb => by omega) (Nat.zero_le _) w hw⟩⟩

theorem vlen_slice (b o n : Nat) (c : Option Nat) : vlen (.slice b o n c) = n := rfl
theorem vlen_nil : vlen .nilslice = 0 := rfl
theorem isSl_slice (b o n : Nat) (c : Option Nat) : isSl (.slice b o n c) = true := rfl
theorem isSl_nil : isSl .nilslice = true := rfl
theorem atP_slice (b o n i : Nat) (c : Option Nat) : atP (.slice b o n c) i = .ptr b (o + i) := rfl
theorem str_hi (s : List Nat) (k : IntKind) {i : Int} (h : Heap) (h0 : 0 ≤ i) (h1 : i ≤ s.length) : sliceStrB s (bounds s.length (some s.length) none (some (.int k i)) none) h = some (.str (s.take i.toNat), h) := by
  have hb : bound (.int k i) s.length = some i.toNat := by simp only [bound]; rw [if_pos ⟨h0, h1⟩]
  simp only [bounds, maxOf, highOf, hb, lowOf, sliceStrB, List.drop_zero]
theorem str_lo (s : List Nat) (k : IntKind) {i : Int} (h : Heap) (h0 : 0 ≤ i) (h1 : i ≤ s.length) : sliceStrB s (bounds s.length (some s.length) (some (.int k i)) none none) h = some (.str (s.drop i.toNat), h) := by
  have hb : bound (.int k i) s.length = some i.toNat := by simp only [bound]; rw [if_pos ⟨h0, h1⟩]
  simp [bounds, maxOf, highOf, hb, lowOf, sliceStrB]

theorem nth_bytesOf (s : List Nat) (i : Nat) (hi : i < s.length) : nth (bytesOf s) i = some (.int .u8 (s.getD i 0 : Nat)) := by
  rw [nth_eq, bytesOf_get, List.getD_eq_getElem?_getD, List.getElem?_eq_getElem hi]; rfl
theorem nth_ints (k : IntKind) (l : List Int) (i : Nat) (hi : i < l.length) : nth (l.map (V.int k)) i = some (.int k (l.getD i 0)) := by
  rw [nth_eq, List.getElem?_map, List.getD_eq_getElem?_getD, List.getElem?_eq_getElem hi]; rfl

end
end Go.Proofs.YthfbefjmenddkaaDoorA
