/-
The state of dimacs' reader in memory: what it holds, and what a step leaves of it. Conditions: none.
-/
import Derived.Test.YthhnhbpmpdminaaGreatDoorDgt
namespace Go.Proofs.YthhnhbpmpdminaaGreatDoor
set_option maxRecDepth 4096
open Go.RowKit Go.Proofs.YthhnhbpmpdminaaGreatDoorW.PrintWords

theorem Tryz.infoIntD : (Tryz.prog.info? 3).map (fun i => (i.zero, i.size, i.bytes)) = some (some (.int .i64 0), 1, 8) := by kernel_rfl
theorem Tryz.infoIntsD : (Tryz.prog.info? 61).map (fun i => (i.zero, i.size, i.bytes)) = some (some (.slice none 0 0), 1, 24) := by kernel_rfl

/-- What was read. -/
structure PS where
  begun : Bool
  v : Nat
  c : Nat
  out : List (List Int)
  now : List Int
  half : Bool
def numsI (l : List Int) : List Value := l.map (Value.int .i64)
def PS.cells (st : PS) (vc vo : Value) : List Value := [.bool st.begun, .int .i64 (st.v : Int), .int .i64 (st.c : Int), vc, vo, .bool st.half]
structure PI (w : World) (B g : Nat) (st : PS) (vc vo : Value) (hs : List Value) : Prop where
  cells : Cells w g 83 (st.cells vc vo)
  base : B ≤ g
  row : w.ownsRow B 61 1 vc st.out.length hs
  each : ∀ (i : Nat) (x : List Int) (h : Value), st.out[i]? = some x → hs[i]? = some h → w.ownsRow B 3 1 h x.length (numsI x)
  own : w.ownsRow B 3 1 vo st.now.length (numsI st.now)
  apart : ∀ (i : Nat) (h : Value) (b : Nat), hs[i]? = some h → h.ownBlock = some b → vo.ownBlock ≠ some b
section
variable {w w' : World} {B g : Nat} {st : PS} {vc vo : Value} {hs : List Value}
theorem PI.len (h : PI w B g st vc vo hs) : hs.length = st.out.length := by
  have := h.row.1
  omega
theorem PI.got (h : PI w B g st vc vo hs) {i : Nat} {u : Value} (hi : hs[i]? = some u) : ∃ x, st.out[i]? = some x ∧ w.ownsRow B 3 1 u x.length (numsI x) := by
  have hl := (List.getElem?_eq_some_iff.1 hi).1
  rw [h.len] at hl
  exact ⟨_, List.getElem?_eq_getElem hl, h.each i _ u (List.getElem?_eq_getElem hl) hi⟩
theorem PI.keep (h : PI w B g st vc vo hs) {S : Nat → Prop} (hm : Mod S w w') (hg : ¬ S g) (hc : ∀ k, vc.ownBlock = some k → ¬ S k) (ho : ∀ k, vo.ownBlock = some k → ¬ S k)
    (hh : ∀ (i : Nat) u k, hs[i]? = some u → u.ownBlock = some k → ¬ S k) : PI w' B g st vc vo hs :=
  ⟨h.cells.keep hm hg, h.base, own_keep h.row hm hc, fun i x u hx hu => own_keep (h.each i x u hx hu) hm (fun k hk => hh i u k hu hk), own_keep h.own hm ho, h.apart⟩
theorem PI.below (h : PI w B g st vc vo hs) (hb : Below w.heap.size w w') : PI w' B g st vc vo hs := by
  refine h.keep (Mod.of_below (S := fun k => w.heap.size ≤ k) hb) ?_ ?_ ?_ ?_
  · have := h.cells.lt; omega
  · intro k hk; have := own_lt_size h.row k hk; omega
  · intro k hk; have := own_lt_size h.own k hk; omega
  · intro i u k hi hk
    obtain ⟨x, _, hx⟩ := h.got hi
    have := own_lt_size hx k hk; omega
theorem PI.drewN (h : PI w B g st vc vo hs) (n : Nat) : PI (w.drewN n) B g st vc vo hs :=
  h.keep (S := fun _ => False) ((Mod.refl _ _).drewN n) (fun q => q) (fun _ _ q => q) (fun _ _ q => q) (fun _ _ _ _ _ q => q)
/-- The parser's own cell is written. -/
theorem PI.row_ne (h : PI w B g st vc vo hs) : vc.ownBlock ≠ some g := own_ne_cells h.row h.cells (by decide)
theorem PI.own_ne (h : PI w B g st vc vo hs) : vo.ownBlock ≠ some g := own_ne_cells h.own h.cells (by decide)
theorem PI.each_ne (h : PI w B g st vc vo hs) {i : Nat} {u : Value} (hi : hs[i]? = some u) : u.ownBlock ≠ some g := by
  obtain ⟨x, _, hx⟩ := h.got hi
  exact own_ne_cells hx h.cells (by decide)
theorem own_ne_own {e e' size size' n n' : Nat} {v v' : Value} {xs xs' : List Value} (h : w.ownsRow B e size v n xs) (h' : w.ownsRow B e' size' v' n' xs') (he : e ≠ e') : ∀ k, v.ownBlock = some k → v'.ownBlock ≠ some k := by
  intro k hk hk'
  obtain ⟨l, hl⟩ := own_cells h k hk
  obtain ⟨l', hl'⟩ := own_cells h' k hk'
  exact he (hl.ty hl').1
/-- The own cells alone are written: the rest stays. -/
theorem PI.written (h : PI w B g st vc vo hs) (hm : Mod (fun k => k = g) w w') {st' : PS} (hc : Cells w' g 83 (st'.cells vc vo)) (ho : st'.out = st.out) (hn : st'.now = st.now) : PI w' B g st' vc vo hs := by
  have key : ∀ {e size n : Nat} {v : Value} {xs : List Value}, w.ownsRow B e size v n xs → v.ownBlock ≠ some g → w'.ownsRow B e size v n xs := fun q hne => own_keep q hm (fun k hk e => hne (e ▸ hk))
  refine ⟨hc, h.base, ?_, fun i x u hx hu => ?_, ?_, h.apart⟩
  · rw [ho]; exact key h.row h.row_ne
  · rw [ho] at hx; exact key (h.each i x u hx hu) (h.each_ne hu)
  · rw [hn]; exact key h.own h.own_ne
/-- A number is laid. -/
theorem PI.push (h : PI w B g st vc vo hs) {w1 : World} {v1 : Value} (n : Int) (hgr : w.grownBy w1 vo.ownBlock) (hown : w1.ownsRow B 3 1 v1 (st.now.length + 1) (numsI st.now ++ [.int .i64 n]))
    (hat : v1.ownBlock = vo.ownBlock ∨ ∃ b, v1.ownBlock = some b ∧ w.heap.size ≤ b) : PI ((w1.setCell ⟨g, 4, none⟩ v1).setCell ⟨g, 5, none⟩ (.bool true)) B g { st with now := st.now ++ [n], half := true } vc v1 hs := by
  have hm1 : Mod (fun k => vo.ownBlock = some k) w w1 := (Mod.refl _ _).grown hgr (fun k hk => .inl hk)
  have hm2 : Mod (fun k => k = g) w1 ((w1.setCell ⟨g, 4, none⟩ v1).setCell ⟨g, 5, none⟩ (.bool true)) := ((Mod.refl (fun k => k = g) w1).setCell (p := ⟨g, 4, none⟩) (.inl rfl) v1).setCell (p := ⟨g, 5, none⟩) (.inl rfl) _
  have hc1 : Cells w1 g 83 (st.cells vc vo) := h.cells.keep hm1 (fun q => h.own_ne q)
  have hne1 : v1.ownBlock ≠ some g := by
    rcases hat with e | ⟨b, e, hb⟩
    · rw [e]; exact h.own_ne
    · rw [e]; intro q; cases q; have := h.cells.lt; omega
  have key : ∀ {e size n : Nat} {v : Value} {xs : List Value}, w.ownsRow B e size v n xs → (∀ k, v.ownBlock = some k → vo.ownBlock ≠ some k) → v.ownBlock ≠ some g → ((w1.setCell ⟨g, 4, none⟩ v1).setCell ⟨g, 5, none⟩ (.bool true)).ownsRow B e size v n xs :=
    fun q h1 hne => own_keep (own_keep q hm1 h1) hm2 (fun k hk e => hne (e ▸ hk))
  refine ⟨?_, h.base, key h.row (own_ne_own h.row h.own (by decide)) h.row_ne, fun i x u hx hu => key (h.each i x u hx hu) (fun k hk => h.apart i u k hu hk) (h.each_ne hu), ?_, fun i u b hu hb => ?_⟩
  · have := (hc1.set 4 v1).set 5 (.bool true)
    simpa [PS.cells] using this
  · have : numsI (st.now ++ [n]) = numsI st.now ++ [.int .i64 n] := by simp [numsI]
    rw [this, List.length_append]
    exact own_keep hown hm2 (fun k hk e => hne1 (e ▸ hk))
  · rcases hat with e | ⟨b', e, hb'⟩
    · rw [e]; exact h.apart i u b hu hb
    · rw [e]; intro q; cases q
      obtain ⟨x, _, hx⟩ := h.got hu
      have := own_lt_size hx _ hb; omega
/-- A clause ends. -/
theorem PI.fin (h : PI w B g st vc vo hs) {w1 : World} {v1 : Value} (hgr : w.grownBy w1 vc.ownBlock) (hown : w1.ownsRow B 61 1 v1 (st.out.length + 1) (hs ++ [vo]))
    (hat : v1.ownBlock = vc.ownBlock ∨ ∃ b, v1.ownBlock = some b ∧ w.heap.size ≤ b) : PI (((w1.setCell ⟨g, 3, none⟩ v1).setCell ⟨g, 4, none⟩ (.slice none 0 0)).setCell ⟨g, 5, none⟩ (.bool false)) B g { st with out := st.out ++ [st.now], now := [], half := false } v1 (.slice none 0 0) (hs ++ [vo]) := by
  have hm1 : Mod (fun k => vc.ownBlock = some k) w w1 := (Mod.refl _ _).grown hgr (fun k hk => .inl hk)
  have hm2 : Mod (fun k => k = g) w1 (((w1.setCell ⟨g, 3, none⟩ v1).setCell ⟨g, 4, none⟩ (.slice none 0 0)).setCell ⟨g, 5, none⟩ (.bool false)) :=
    (((Mod.refl (fun k => k = g) w1).setCell (p := ⟨g, 3, none⟩) (.inl rfl) v1).setCell (p := ⟨g, 4, none⟩) (.inl rfl) (.slice none 0 0)).setCell (p := ⟨g, 5, none⟩) (.inl rfl) _
  have hc1 : Cells w1 g 83 (st.cells vc vo) := h.cells.keep hm1 (fun q => h.row_ne q)
  have hne1 : v1.ownBlock ≠ some g := by
    rcases hat with e | ⟨b, e, hb⟩
    · rw [e]; exact h.row_ne
    · rw [e]; intro q; cases q; have := h.cells.lt; omega
  have key : ∀ {e size n : Nat} {v : Value} {xs : List Value}, w.ownsRow B e size v n xs → (∀ k, v.ownBlock = some k → vc.ownBlock ≠ some k) → v.ownBlock ≠ some g → (((w1.setCell ⟨g, 3, none⟩ v1).setCell ⟨g, 4, none⟩ (.slice none 0 0)).setCell ⟨g, 5, none⟩ (.bool false)).ownsRow B e size v n xs :=
    fun q h1 hne => own_keep (own_keep q hm1 h1) hm2 (fun k hk e => hne (e ▸ hk))
  refine ⟨?_, h.base, ?_, fun i x u hx hu => ?_, ?_, fun i u b hu hb => by simp [Value.ownBlock]⟩
  · have := ((hc1.set 3 v1).set 4 (.slice none 0 0)).set 5 (.bool false)
    simpa [PS.cells] using this
  · rw [List.length_append]
    exact own_keep hown hm2 (fun k hk e => hne1 (e ▸ hk))
  · by_cases hi : i < st.out.length
    · rw [List.getElem?_append_left hi] at hx
      rw [List.getElem?_append_left (by rw [h.len]; exact hi)] at hu
      exact key (h.each i x u hx hu) (own_ne_own (h.each i x u hx hu) h.row (by decide)) (h.each_ne hu)
    · rw [List.getElem?_append_right (by omega)] at hx
      rw [List.getElem?_append_right (by rw [h.len]; omega), h.len] at hu
      have hi0 : i - st.out.length = 0 := by
        have := (List.getElem?_eq_some_iff.1 hx).1
        simpa using this
      rw [hi0] at hx hu
      simp only [List.getElem?_cons_zero, Option.some.injEq] at hx hu
      subst hx; subst hu
      exact key h.own (own_ne_own h.own h.row (by decide)) h.own_ne
  · exact World.ownsRow_nil _ _ _ _
end
/-- Blocks of strings stay as they are. -/
def KS (w w' : World) : Prop := ∀ k l, Cells w k 9 l → Cells w' k 9 l
section
variable {w w' w2 : World} {B : Nat}
theorem KS.refl (w : World) : KS w w := fun _ _ h => h
theorem KS.trans (h : KS w w') (g : KS w' w2) : KS w w2 := fun k l q => g k l (h k l q)
theorem KS.of_below (h : Below w.heap.size w w') : KS w w' := fun _ _ q => q.below h
theorem KS.drewN (n : Nat) : KS w (w.drewN n) := fun _ _ q => q.drewN n
theorem KS.drew : KS w w.drew := fun _ _ q => q.drew
theorem KS.alloc (o : Obj) : KS w (w.alloc o) := fun _ _ q => q.alloc o
theorem KS.grown {e size n : Nat} {v : Value} {xs : List Value} (h : w.ownsRow B e size v n xs) (he : e ≠ 9) (hg : w.grownBy w' v.ownBlock) : KS w w' := fun _ _ q => q.grown hg (own_ne_cells h q he)
theorem KS.set {g t : Nat} {l : List Value} (h : Cells w g t l) (ht : t ≠ 9) (i : Nat) (u : Value) : KS w (w.setCell ⟨g, i, none⟩ u) := fun k _ q => q.far (p := ⟨g, i, none⟩) (fun e => ht (by
  have e : k = g := e
  subst e
  exact (h.ty q).1)) u
end
end Go.Proofs.YthhnhbpmpdminaaGreatDoor
