/-
The plain reader, a second time: what was told once is told again, over a graph that has grown, and with more names. Conditions: none.
-/
import Derived.Test.YthhnhbpmpdminaaGreatDoorXH
namespace Go.Proofs.YthhnhbpmpdminaaGreatDoor
set_option maxRecDepth 4096
open Go.RowKit
structure Ext (G H : Gr) : Prop where
  most : H.most = G.most
  pre : G.l <+: H.l
theorem Ext.refl (G : Gr) : Ext G G := ⟨rfl, List.prefix_refl _⟩
theorem Ext.trans {G H K : Gr} (a : Ext G H) (b : Ext H K) : Ext G K := ⟨b.most.trans a.most, a.pre.trans b.pre⟩
theorem Ext.len {G H : Gr} (a : Ext G H) : G.l.length ≤ H.l.length := a.pre.length_le
theorem pre_get {l m : List Nd} (h : l <+: m) {k : Nat} (hk : k < l.length) : m[k]? = l[k]? := by
  obtain ⟨t, rfl⟩ := h
  rw [List.getElem?_append_left hk]
theorem ix_pre {l m : List Nd} {x : Nd} (h : l <+: m) (hx : ix l x ≠ 0) : ix m x = ix l x := by
  obtain ⟨t, rfl⟩ := h
  induction t generalizing l with
  | nil => simp
  | cons y t ih =>
    have e : ix (l ++ [y]) x = ix l x := by rw [ix_append, if_neg hx]
    have := ih (l := l ++ [y]) (by rw [e]; exact hx)
    rw [List.append_assoc, e] at this
    exact this
theorem nix_pre {l m : List Nd} {s : ByteArray} (h : l <+: m) (hx : nix l s ≠ 0) : nix m s = nix l s := by
  obtain ⟨t, rfl⟩ := h
  induction t generalizing l with
  | nil => simp
  | cons y t ih =>
    have e : nix (l ++ [y]) s = nix l s := by rw [nix_append, if_neg hx]
    have := ih (l := l ++ [y]) (by rw [e]; exact hx)
    rw [List.append_assoc, e] at this
    exact this
theorem sortAt_pre {l m : List Nd} (h : l <+: m) {id : Int} (h1 : 1 ≤ id) (h2 : id ≤ (l.length : Int)) : sortAt m id = sortAt l id := by
  unfold sortAt
  rw [pre_get h (by omega)]
theorem okOp_mono {n m : Nat} (h : n ≤ m) {ar i id : Int} (hk : okOp n ar i id = true) : okOp m ar i id = true := by
  unfold okOp at hk ⊢
  split
  · rename_i hi
    rw [if_pos hi] at hk
    simp only [Bool.and_eq_true, decide_eq_true_eq] at hk ⊢
    omega
  · rename_i hi
    rw [if_neg hi] at hk
    exact hk
theorem formed_mono {n m : Nat} (h : n ≤ m) {x : Nd} (hk : formedV n x = true) : formedV m x = true := by
  unfold formedV at hk ⊢
  simp only [Bool.and_eq_true] at hk ⊢
  obtain ⟨⟨⟨⟨⟨h1, h2⟩, h3⟩, h4⟩, h5⟩, h6⟩ := hk
  exact ⟨⟨⟨⟨⟨okOp_mono h h1, okOp_mono h h2⟩, okOp_mono h h3⟩, h4⟩, h5⟩, h6⟩
theorem okOp_range {n : Nat} {ar i id : Int} (h : okOp n ar i id = true) (hid : 0 < id) : id ≤ (n : Int) := by
  unfold okOp at h
  split at h
  · simp only [Bool.and_eq_true, decide_eq_true_eq] at h; omega
  · have : id = 0 := by simpa using h
    omega
theorem sortsOf_pre {l m : List Nd} (h : l <+: m) {x : Nd} (hf : formedV l.length x = true) : sortsOf m x = sortsOf l x := by
  unfold formedV at hf
  simp only [Bool.and_eq_true] at hf
  obtain ⟨⟨⟨⟨⟨h1, h2⟩, h3⟩, _⟩, _⟩, _⟩ := hf
  unfold sortsOf
  apply List.map_congr_left
  intro id hid
  have hp : 0 < id := by simpa using (List.mem_filter.1 hid).2
  have hm := (List.mem_filter.1 hid).1
  refine sortAt_pre h (by omega) ?_
  simp only [List.mem_cons, List.not_mem_nil, or_false] at hm
  rcases hm with e | e | e
  · rw [e] at hp ⊢; exact okOp_range h1 hp
  · rw [e] at hp ⊢; exact okOp_range h2 hp
  · rw [e] at hp ⊢; exact okOp_range h3 hp
theorem mk_ext (G : Gr) (x : Nd) : Ext G (mk G x).2 := by
  unfold mk
  repeat' split
  all_goals first | exact .refl _ | exact ⟨rfl, List.prefix_append _ _⟩
theorem mk_len {G : Gr} {x : Nd} (h : (mk G x).1.2 = 0) : 1 ≤ (mk G x).1.1 ∧ (mk G x).1.1 ≤ (mk G x).2.l.length := by
  have hi := ix_le (x := (sortedV G.l x).1) G.l
  unfold mk at h ⊢
  by_cases h1 : formedV G.l.length x = false
  · rw [if_pos h1] at h; simp at h
  · rw [if_neg h1] at h ⊢
    by_cases h2 : (sortedV G.l x).2 ≠ 0
    · rw [if_pos h2] at h; exact absurd h h2
    · rw [if_neg h2] at h ⊢
      by_cases h3 : ix G.l (sortedV G.l x).1 ≠ 0
      · rw [if_pos h3]; exact ⟨by simp only; omega, hi⟩
      · rw [if_neg h3] at h ⊢
        by_cases h4 : G.most ≤ G.l.length
        · rw [if_pos h4] at h; simp at h
        · rw [if_neg h4]; simp
/-- A node's sort, where the graph has grown. -/
theorem sorted_pre {l m : List Nd} (h : l <+: m) {x : Nd} (hf : formedV l.length x = true) (hs : (sortedV l x).2 = 0) (hn : x.op = 2 → nix l x.name ≠ 0 ∨ sortAt m (nix m x.name) = x.sort) : sortedV m x = sortedV l x := by
  unfold sortedV at hs ⊢
  by_cases h1 : x.op = 1
  · rw [if_pos h1, if_pos h1]
  · rw [if_neg h1] at hs
    rw [if_neg h1, if_neg h1]
    by_cases h2 : x.op = 2
    · rw [if_pos h2] at hs
      rw [if_pos h2, if_pos h2]
      by_cases h3 : isSort x.sort = false ∨ x.p ≠ 0 ∨ x.q ≠ 0
      · rw [if_pos h3] at hs; simp at hs
      · rw [if_neg h3] at hs
        rw [if_neg h3, if_neg h3]
        by_cases h4 : x.name.size = 0 ∨ (0 < nix l x.name ∧ sortAt l (nix l x.name : Int) ≠ x.sort)
        · rw [if_pos h4] at hs; simp at hs
        · rw [if_neg h4, if_neg]
          rintro (h5 | ⟨h5, h6⟩)
          · exact h4 (.inl h5)
          · rcases hn h2 with h7 | h7
            · rw [nix_pre h h7, sortAt_pre h (by omega) (by have := nix_le (s := x.name) l; omega)] at h6
              exact h4 (.inr ⟨by omega, h6⟩)
            · exact h6 h7
    · rw [if_neg h2, if_neg h2, sortsOf_pre h hf]
theorem sorted_name (l : List Nd) (x : Nd) : (sortedV l x).1.name = x.name ∧ (sortedV l x).1.op = x.op ∧ (x.op = 2 → (sortedV l x).1 = x) := by
  unfold sortedV
  by_cases h1 : x.op = 1
  · rw [if_pos h1]; split <;> simp
  · rw [if_neg h1]
    by_cases h2 : x.op = 2
    · rw [if_pos h2]; repeat' split
      all_goals simp
    · rw [if_neg h2]; simp [h2]
theorem mk_again {G H : Gr} {x : Nd} (h : (mk G x).1.2 = 0) (hx : Ext (mk G x).2 H) : mk H x = ((mk G x).1, H) := by
  have hGH := (mk_ext G x).trans hx
  obtain ⟨n1, n2, n3⟩ := sorted_name G.l x
  have key : ∀ (id : Nat), formedV G.l.length x = true → (sortedV G.l x).2 = 0 → ix H.l (sortedV G.l x).1 = id → id ≠ 0 → (x.op = 2 → nix G.l x.name ≠ 0 ∨ sortAt H.l (nix H.l x.name) = x.sort) → mk H x = ((id, 0), H) := by
    intro id hf hs hi h0 hn
    have hs' := sorted_pre hGH.pre hf hs hn
    unfold mk
    rw [if_neg (by rw [formed_mono hGH.len hf]; simp), hs', if_neg (by simp [hs]), if_pos (by rw [hi]; exact h0), hi]
  unfold mk at h hx ⊢
  by_cases h1 : formedV G.l.length x = false
  · rw [if_pos h1] at h; simp at h
  · rw [if_neg h1] at h hx ⊢
    have h1 : formedV G.l.length x = true := by simpa using h1
    by_cases h2 : (sortedV G.l x).2 ≠ 0
    · rw [if_pos h2] at h; exact absurd h h2
    · rw [if_neg h2] at h hx ⊢
      have h2 : (sortedV G.l x).2 = 0 := by simpa using h2
      by_cases h3 : ix G.l (sortedV G.l x).1 ≠ 0
      · rw [if_pos h3] at hx ⊢
        refine key _ h1 h2 (ix_pre hx.pre h3) h3 fun ho => ?_
        left
        obtain ⟨k, hk⟩ : ∃ k, ix G.l (sortedV G.l x).1 = k + 1 := ⟨_, (Nat.succ_pred h3).symm⟩
        have := List.mem_of_getElem? (ix_get hk)
        intro hz
        exact nix_zero.1 hz _ this (n2.trans ho) n1
      · rw [if_neg h3] at h hx ⊢
        have h3 : ix G.l (sortedV G.l x).1 = 0 := by simpa using h3
        by_cases h4 : G.most ≤ G.l.length
        · rw [if_pos h4] at h; simp at h
        · rw [if_neg h4] at hx ⊢
          have hi : ix (G.l ++ [(sortedV G.l x).1]) (sortedV G.l x).1 = G.l.length + 1 := by
            rw [ix_append, if_pos h3, if_pos (Nd.same_iff.2 rfl)]
          refine key _ h1 h2 (by rw [ix_pre hx.pre (by simp only; rw [hi]; omega)]; exact hi) (by omega) fun ho => ?_
          by_cases hz : nix G.l x.name = 0
          · right
            have e1 := n3 ho
            have hz2 : nix (G.l ++ [(sortedV G.l x).1]) x.name = G.l.length + 1 := by
              rw [nix_append, if_pos hz, e1, if_pos (by simp [ho])]
            have : nix H.l x.name = G.l.length + 1 := by rw [nix_pre hx.pre (by simp only; rw [hz2]; omega)]; exact hz2
            rw [this]
            unfold sortAt
            have hg : H.l[G.l.length]? = some (sortedV G.l x).1 := by
              rw [pre_get hx.pre (by simp)]; simp
            rw [show (((G.l.length + 1 : Nat) : Int) - 1).toNat = G.l.length by omega, hg, e1]
          · exact .inl hz
/-- A step over a graph that has grown from G0: it only adds; what it tells, it tells again, with more names (g). -/
def Agn (G0 : Gr) (f g : Rd → Rs) : Prop := ∀ r, Ext G0 r.G → r.n ≤ 65536 → Ext r.G (f r).2.G ∧ (f r).2.n ≤ 65537 ∧
  ((f r).1.2 = 0 → (f r).2.n ≤ 65536 ∧ 1 ≤ (f r).1.1 ∧ (f r).1.1 ≤ (f r).2.G.l.length ∧ ∀ H, Ext (f r).2.G H → g ⟨r.n, H⟩ = ((f r).1, ⟨(f r).2.n, H⟩))
theorem agn_make (G0 : Gr) (x : Nd) : Agn G0 (makeF x) (makeF x) := by
  intro r _ hn
  refine ⟨mk_ext _ _, by simp only [makeF]; omega, fun h => ⟨hn, (mk_len h).1, (mk_len h).2, fun H hH => ?_⟩⟩
  unfold makeF
  simp only
  rw [mk_again h hH]
theorem agn_fail (G0 : Gr) (e : Int) (he : e ≠ 0) (g : Rd → Rs) : Agn G0 (failF e) g :=
  fun r _ hn => ⟨.refl _, by simp only [failF]; omega, fun h => absurd h he⟩
theorem agn_ret (G0 : Gr) (id : Nat) (h1 : 1 ≤ id) (h2 : id ≤ G0.l.length) : Agn G0 (fun r => ((id, 0), r)) (fun r => ((id, 0), r)) :=
  fun _ hr hn => ⟨.refl _, by simp only; omega, fun _ => ⟨hn, h1, Nat.le_trans h2 hr.len, fun _ _ => rfl⟩⟩
theorem agn_then {G0 : Gr} {f g : Rd → Rs} {k k2 : Nat → Rd → Rs} (h : Agn G0 f g) (hk : ∀ id G1, Ext G0 G1 → 1 ≤ id → id ≤ G1.l.length → Agn G1 (k id) (k2 id)) : Agn G0 (fun r => thenF (f r) k) (fun r => thenF (g r) k2) := by
  intro r hr hn
  obtain ⟨h1, h2, h3⟩ := h r hr hn
  simp only [thenF]
  by_cases he : (f r).1.2 ≠ 0
  · rw [if_pos he]
    exact ⟨h1, h2, fun q => absurd q he⟩
  · rw [if_neg he]
    have he : (f r).1.2 = 0 := by simpa using he
    obtain ⟨i1, i2, i3, i4⟩ := h3 he
    obtain ⟨j1, j2, j3⟩ := hk _ (f r).2.G (hr.trans h1) i2 i3 (f r).2 (.refl _) i1
    refine ⟨h1.trans j1, j2, fun q => ?_⟩
    obtain ⟨k1, k2', k3, k4⟩ := j3 q
    refine ⟨k1, k2', k3, fun H hH => ?_⟩
    rw [i4 H (j1.trans hH), if_neg (by simp [he])]
    exact k4 H hH
/-- Many steps, one by one. -/
def AgnL (G0 : Gr) (f g : Rd → Ls) : Prop := ∀ r, Ext G0 r.G → r.n ≤ 65536 → Ext r.G (f r).2.G ∧ (f r).2.n ≤ 65537 ∧
  ((f r).1.2 = 0 → (f r).2.n ≤ 65536 ∧ (∀ id ∈ (f r).1.1, 1 ≤ id ∧ id ≤ (f r).2.G.l.length) ∧ ∀ H, Ext (f r).2.G H → g ⟨r.n, H⟩ = ((f r).1, ⟨(f r).2.n, H⟩))
theorem agn_seq {α β : Type} {f : α → Rd → Rs} {g : β → Rd → Rs} (φ : α → β) (l : List α) : ∀ {G0 : Gr}, (∀ x ∈ l, ∀ G1, Ext G0 G1 → Agn G1 (f x) (g (φ x))) → AgnL G0 (seqF f l) (seqF g (l.map φ)) := by
  induction l with
  | nil => intro G0 _ r _ hn; exact ⟨.refl _, by simp only [seqF]; omega, fun _ => ⟨hn, (fun id hid => by cases hid), fun _ _ => rfl⟩⟩
  | cons x t ih =>
    intro G0 hx r hr hn
    obtain ⟨h1, h2, h3⟩ := hx x (by simp) G0 (.refl _) r hr hn
    simp only [seqF, List.map_cons]
    by_cases he : (f x r).1.2 ≠ 0
    · rw [if_pos he]
      exact ⟨h1, h2, fun q => absurd q he⟩
    · rw [if_neg he]
      have he : (f x r).1.2 = 0 := by simpa using he
      obtain ⟨i1, i2, i3, i4⟩ := h3 he
      obtain ⟨j1, j2, j3⟩ := ih (G0 := (f x r).2.G) (fun y hy G1 hG => hx y (by simp [hy]) G1 ((hr.trans h1).trans hG)) (f x r).2 (.refl _) i1
      refine ⟨h1.trans j1, j2, fun q => ?_⟩
      obtain ⟨k1, k2, k3⟩ := j3 q
      refine ⟨k1, fun id hid => ?_, fun H hH => ?_⟩
      · rcases List.mem_cons.1 hid with rfl | hid
        · exact ⟨i2, Nat.le_trans i3 j1.len⟩
        · exact k2 id hid
      · rw [i4 H (j1.trans hH)]
        simp only
        rw [if_neg (by simp [he]), k3 H hH]
theorem agn_thenL {G0 : Gr} {f g : Rd → Ls} {k k2 : List Nat → Rd → Rs} (h : AgnL G0 f g) (hk : ∀ ids G1, Ext G0 G1 → (∀ id ∈ ids, 1 ≤ id ∧ id ≤ G1.l.length) → Agn G1 (k ids) (k2 ids)) : Agn G0 (fun r => thenL (f r) k) (fun r => thenL (g r) k2) := by
  intro r hr hn
  obtain ⟨h1, h2, h3⟩ := h r hr hn
  simp only [thenL]
  by_cases he : (f r).1.2 ≠ 0
  · rw [if_pos he]
    exact ⟨h1, h2, fun q => absurd q he⟩
  · rw [if_neg he]
    have he : (f r).1.2 = 0 := by simpa using he
    obtain ⟨i1, i2, i4⟩ := h3 he
    obtain ⟨j1, j2, j3⟩ := hk _ (f r).2.G (hr.trans h1) i2 (f r).2 (.refl _) i1
    refine ⟨h1.trans j1, j2, fun q => ?_⟩
    obtain ⟨k1, k2', k3, k4⟩ := j3 q
    refine ⟨k1, k2', k3, fun H hH => ?_⟩
    rw [i4 H (j1.trans hH), if_neg (by simp [he])]
    exact k4 H hH
theorem Agn.mono {G0 G1 : Gr} {f g : Rd → Rs} (h : Agn G0 f g) (he : Ext G0 G1) : Agn G1 f g := fun r hr hn => h r (he.trans hr) hn
theorem agn_two (G0 : Gr) (op : Int) (a b : Nat) : Agn G0 (twoF op a b) (twoF op a b) := agn_make _ _
theorem agn_left (op : Int) : ∀ (l : List Nat) (out : Nat) (G0 : Gr), 1 ≤ out → out ≤ G0.l.length → Agn G0 (leftF op l out) (leftF op l out)
  | [], out, G0, h1, h2 => agn_ret G0 out h1 h2
  | b :: t, out, G0, _, _ => agn_then (agn_two G0 op out b) fun id G1 _ i1 i2 => agn_left op t id G1 i1 i2
theorem agn_right (op : Int) : ∀ (l : List Nat) (out : Nat) (G0 : Gr), 1 ≤ out → out ≤ G0.l.length → Agn G0 (rightF op l out) (rightF op l out)
  | [], out, G0, h1, h2 => agn_ret G0 out h1 h2
  | b :: t, out, G0, _, _ => agn_then (agn_two G0 op b out) fun id G1 _ i1 i2 => agn_right op t id G1 i1 i2
theorem agn_leftA (op : Int) (ids : List Nat) (G0 : Gr) (hne : ids ≠ []) (h : ∀ id ∈ ids, 1 ≤ id ∧ id ≤ G0.l.length) : Agn G0 (leftA op ids) (leftA op ids) := by
  cases ids with
  | nil => exact absurd rfl hne
  | cons a t => exact agn_left op t a G0 (h a (by simp)).1 (h a (by simp)).2
theorem agn_rightA (op : Int) (ids : List Nat) (G0 : Gr) (hne : ids ≠ []) (h : ∀ id ∈ ids, 1 ≤ id ∧ id ≤ G0.l.length) : Agn G0 (rightA op ids) (rightA op ids) := by
  unfold rightA
  have h2 : ∀ id ∈ ids.reverse, 1 ≤ id ∧ id ≤ G0.l.length := fun id hid => h id (by simpa using hid)
  have hne2 : ids.reverse ≠ [] := by simpa using hne
  cases hq : ids.reverse with
  | nil => exact absurd hq hne2
  | cons a t =>
    rw [hq] at h2
    exact agn_right op t a G0 (h2 a (by simp)).1 (h2 a (by simp)).2
theorem agn_eq (G0 : Gr) (p : Nat × Nat) : Agn G0 (eqF p) (eqF p) := agn_two _ _ _ _
theorem agn_ne (G0 : Gr) (p : Nat × Nat) : Agn G0 (neF p) (neF p) := agn_then (agn_two _ _ _ _) fun _ G1 _ _ _ => agn_make G1 _
theorem seq_len {α : Type} (f : α → Rd → Rs) : ∀ (l : List α) (r : Rd), (seqF f l r).1.2 = 0 → (seqF f l r).1.1.length = l.length
  | [], _, _ => rfl
  | x :: t, r, h => by
    simp only [seqF] at h ⊢
    by_cases he : (f x r).1.2 ≠ 0
    · rw [if_pos he] at h; exact absurd h he
    · rw [if_neg he] at h ⊢
      simp [seq_len f t _ h]
/-- What comes behind many steps may count on their number. -/
theorem agn_thenLn {G0 : Gr} {n : Nat} {f g : Rd → Ls} {k k2 : List Nat → Rd → Rs} (h : AgnL G0 f g) (hlen : ∀ r, (f r).1.2 = 0 → (f r).1.1.length = n) (hk : ∀ ids G1, Ext G0 G1 → ids.length = n → (∀ id ∈ ids, 1 ≤ id ∧ id ≤ G1.l.length) → Agn G1 (k ids) (k2 ids)) : Agn G0 (fun r => thenL (f r) k) (fun r => thenL (g r) k2) := by
  intro r hr hn
  obtain ⟨h1, h2, h3⟩ := h r hr hn
  simp only [thenL]
  by_cases he : (f r).1.2 ≠ 0
  · rw [if_pos he]
    exact ⟨h1, h2, fun q => absurd q he⟩
  · rw [if_neg he]
    have he : (f r).1.2 = 0 := by simpa using he
    obtain ⟨i1, i2, i4⟩ := h3 he
    obtain ⟨j1, j2, j3⟩ := hk _ (f r).2.G (hr.trans h1) (hlen r he) i2 (f r).2 (.refl _) i1
    refine ⟨h1.trans j1, j2, fun q => ?_⟩
    obtain ⟨k1, k2', k3, k4⟩ := j3 q
    refine ⟨k1, k2', k3, fun H hH => ?_⟩
    rw [i4 H (j1.trans hH), if_neg (by simp [he])]
    exact k4 H hH
theorem agn_seq_id {α : Type} {f g : α → Rd → Rs} (l : List α) {G0 : Gr} (h : ∀ x ∈ l, ∀ G1, Ext G0 G1 → Agn G1 (f x) (g x)) : AgnL G0 (seqF f l) (seqF g l) := by
  have := agn_seq (f := f) (g := g) id l h
  simpa using this
theorem agn_chain (ids : List Nat) (G0 : Gr) (hn : 2 ≤ ids.length) : Agn G0 (chainF ids) (chainF ids) := by
  refine agn_thenLn (n := (ids.zip ids.tail).length) (agn_seq_id _ fun p _ G1 _ => agn_eq G1 p) (fun r h => seq_len _ _ _ h) fun l G1 _ hl h => agn_leftA 4 l G1 ?_ h
  intro e
  rw [e] at hl
  simp at hl
  omega
theorem pairs_ne : ∀ {l : List Nat}, 2 ≤ l.length → (pairsV l).length ≠ 0
  | [], h => by simp at h
  | [_], h => by simp at h
  | _ :: _ :: _, _ => by simp [pairsV]
theorem agn_distinct (ids : List Nat) (G0 : Gr) (hn : 2 ≤ ids.length) : Agn G0 (distinctF ids) (distinctF ids) := by
  refine agn_thenLn (n := (pairsV ids).length) (agn_seq_id _ fun p _ G1 _ => agn_ne G1 p) (fun r h => seq_len _ _ _ h) fun l G1 _ hl h => agn_leftA 4 l G1 ?_ h
  intro e
  rw [e] at hl
  exact pairs_ne hn hl.symm
theorem agn_apply (op p q : Int) (ids : List Nat) (G0 : Gr) (hn : manyV op = true → 2 ≤ ids.length) (h : ∀ id ∈ ids, 1 ≤ id ∧ id ≤ G0.l.length) : Agn G0 (applyF op p q ids) (applyF op p q ids) := by
  have hne : manyV op = true → ids ≠ [] := fun hm e => by have := hn hm; rw [e] at this; simp at this
  unfold applyF
  by_cases h1 : op = 8
  · simp only [if_pos h1]; exact agn_chain ids G0 (hn (by rw [h1]; rfl))
  · simp only [if_neg h1]
    by_cases h2 : op = -1
    · simp only [if_pos h2]; exact agn_distinct ids G0 (hn (by rw [h2]; rfl))
    · simp only [if_neg h2]
      by_cases h3 : op = 7
      · simp only [if_pos h3]; exact agn_rightA op ids G0 (hne (by rw [h3]; rfl)) h
      · simp only [if_neg h3]
        by_cases h4 : manyV op = true
        · simp only [if_pos h4]; exact agn_leftA op ids G0 (hne h4) h
        · simp only [if_neg h4]; exact agn_make G0 _
theorem exi_pre {s : ByteArray} : ∀ {E E2 : List Ent}, E <+: E2 → exi s E ≠ 0 → exi s E2 = exi s E
  | [], _, _, h => absurd rfl h
  | e :: r, E2, hp, h => by
    obtain ⟨t, rfl⟩ := hp
    rw [List.cons_append]
    unfold exi at h ⊢
    split
    · rfl
    · rename_i hs
      rw [if_neg hs] at h
      have : exi s r ≠ 0 := by
        intro e0; rw [e0] at h; exact h rfl
      rw [exi_pre (List.prefix_append r t) this]
theorem seen_pre {E E2 : List Ent} (hp : E <+: E2) {lim lim2 : Nat} (hl : lim ≤ lim2) {s : ByteArray} {z : Nat × Ent} (h : seenV E lim s = some z) : seenV E2 lim2 s = some z := by
  unfold seenV at h ⊢
  cases hk : exi s E with
  | zero => rw [hk] at h; cases h
  | succ k =>
    rw [hk] at h
    rw [exi_pre hp (by rw [hk]; omega), hk]
    simp only at h ⊢
    by_cases hlk : lim < k + 1
    · rw [if_pos hlk] at h; cases h
    · rw [if_neg hlk] at h
      rw [if_neg (by omega)]
      obtain ⟨t, rfl⟩ := hp
      have hkl : k < E.length := by
        rcases Nat.lt_or_ge k E.length with q | q
        · exact q
        · rw [List.getElem?_eq_none q] at h; cases h
      rw [List.getElem?_append_left hkl]
      exact h
theorem seen_get {E : List Ent} {lim : Nat} {s : ByteArray} {i : Nat} {e : Ent} (h : seenV E lim s = some (i, e)) : 1 ≤ i ∧ i ≤ lim ∧ i ≤ E.length ∧ E[i - 1]? = some e ∧ e ∈ E := by
  unfold seenV at h
  split at h
  · cases h
  · rename_i k hk
    split at h
    · cases h
    · rename_i hlk
      obtain ⟨e', he, h2⟩ := Option.map_eq_some_iff.1 h
      cases h2
      have := (List.getElem?_eq_some_iff.1 he).1
      exact ⟨by omega, by omega, by omega, he, List.mem_of_getElem? he⟩
theorem exi_get {s : ByteArray} : ∀ {E : List Ent} {k : Nat}, exi s E = k + 1 → ∃ e, E[k]? = some e ∧ e.name = s
  | [], k, h => by simp [exi] at h
  | y :: r, k, h => by
    unfold exi at h
    split at h
    · rename_i hs
      have : k = 0 := by omega
      subst this
      exact ⟨y, rfl, ba_ext (by simpa using hs)⟩
    · split at h
      · cases h
      · rename_i j hj
        have : k = j + 1 := by omega
        subst this
        simpa using exi_get hj
/-- Declared names are variables. -/
def Dec (E : List Ent) (G : Gr) : Prop := ∀ e ∈ E, e.defined = false → nix G.l e.name ≠ 0
def BndOk (b : Bnd) (G : Gr) : Prop := ∀ p ∈ b, 1 ≤ p.2 ∧ p.2 ≤ G.l.length
theorem Dec.ext {E : List Ent} {G H : Gr} (h : Dec E G) (hx : Ext G H) : Dec E H := fun e he hd => by rw [nix_pre hx.pre (h e he hd)]; exact h e he hd
theorem BndOk.ext {b : Bnd} {G H : Gr} (h : BndOk b G) (hx : Ext G H) : BndOk b H := fun p hp => ⟨(h p hp).1, Nat.le_trans (h p hp).2 hx.len⟩
theorem bnd_mem {s : ByteArray} : ∀ {b : Bnd}, boundV s b ≠ 0 → ∃ p ∈ b, p.2 = boundV s b
  | [], h => absurd rfl h
  | p :: r, h => by
    unfold boundV at h ⊢
    split
    · exact ⟨p, by simp, rfl⟩
    · rename_i hs
      rw [if_neg hs] at h
      obtain ⟨q, hq, hr⟩ := bnd_mem h
      exact ⟨q, by simp [hq], hr⟩
theorem bnd_zip {ss : List ByteArray} {ids : List Nat} {G : Gr} (h : ∀ id ∈ ids, 1 ≤ id ∧ id ≤ G.l.length) {b : Bnd} (hb : BndOk b G) : BndOk ((ss.zip ids).reverse ++ b) G := by
  intro p hp
  rcases List.mem_append.1 hp with hp | hp
  · exact h _ (List.of_mem_zip (by simpa using hp)).2
  · exact hb p hp
/-- Reading again: what Tm's own recursion must tell. -/
def TmOk (E : List Ent) (rec rec2 : Tm) : Prop := ∀ (x : Sx) (b : Bnd) (lim lim2 : Nat) (G0 : Gr), lim ≤ lim2 → BndOk b G0 → Dec E G0 → Agn G0 (rec x b lim) (rec2 x b lim2)
section
variable {E E2 : List Ent} (hp : E <+: E2) {rec rec2 : Tm} (hr : TmOk E rec rec2)
include hr
theorem agn_all (l : List Sx) (b : Bnd) (lim lim2 : Nat) (G0 : Gr) (hl : lim ≤ lim2) (hb : BndOk b G0) (hd : Dec E G0) : AgnL G0 (allF rec l b lim) (allF rec2 l b lim2) :=
  agn_seq_id l fun x _ G1 h1 => hr x b lim lim2 G1 hl (hb.ext h1) (hd.ext h1)
theorem agn_body (e : Ent) (i : Nat) (ids : List Nat) (G0 : Gr) (hd : Dec E G0) (h : ∀ id ∈ ids, 1 ≤ id ∧ id ≤ G0.l.length) : Agn G0 (bodyF rec e i ids) (bodyF rec2 e i ids) := by
  refine agn_then (hr e.body _ (i - 1) (i - 1) G0 (Nat.le_refl _) (by have := bnd_zip (ss := e.params.map (·.1)) h (b := []) (fun p hp => by cases hp); simpa using this) hd) fun id G1 h1 i1 i2 => ?_
  intro r hr hn
  have hs : sortAt r.G.l id = sortAt G1.l id := sortAt_pre hr.pre (by omega) (by omega)
  dsimp only
  by_cases hne : sortAt r.G.l id ≠ e.sort
  · rw [if_pos hne]
    exact ⟨.refl _, by simp only [failF]; omega, fun q => by simp [failF] at q⟩
  · rw [if_neg hne]
    refine ⟨.refl _, by simp only; omega, fun _ => ⟨hn, i1, Nat.le_trans i2 hr.len, fun H hH => ?_⟩⟩
    rw [if_neg (by rw [sortAt_pre (hr.trans hH).pre (by omega) (by omega), ← hs]; exact hne)]
include hp
theorem agn_word (s : ByteArray) (b : Bnd) (lim lim2 : Nat) (G0 : Gr) (hl : lim ≤ lim2) (hb : BndOk b G0) (hd : Dec E G0) : Agn G0 (wordF E rec s b lim) (wordF E2 rec2 s b lim2) := by
  unfold wordF
  cases bvParse s.data.toList with
  | some v => exact agn_make _ _
  | none =>
    simp only
    by_cases h1 : nameB s.data.toList = false
    · simp only [if_pos h1]; exact agn_fail _ _ (by decide) _
    · simp only [if_neg h1]
      by_cases h2 : 0 < boundV s b
      · simp only [if_pos h2]
        obtain ⟨p, hpm, hpe⟩ := bnd_mem (s := s) (b := b) (by omega)
        exact agn_ret _ _ h2 (by rw [← hpe]; exact (hb p hpm).2)
      · simp only [if_neg h2]
        cases hs : seenV E lim s with
        | none => exact agn_fail _ _ (by decide) _
        | some z =>
          obtain ⟨i, e⟩ := z
          rw [seen_pre hp hl hs]
          simp only
          obtain ⟨s1, s2, s3, s4, s5⟩ := seen_get hs
          by_cases h3 : e.defined = true
          · simp only [if_pos h3]
            by_cases h4 : e.params ≠ []
            · simp only [if_pos h4]; exact agn_fail _ _ (by decide) _
            · simp only [if_neg h4]; exact agn_body hr e i [] G0 hd (fun id hid => by cases hid)
          · simp only [if_neg h3]
            have hname : e.name = s := by
              unfold seenV at hs
              split at hs
              · cases hs
              · rename_i k hk
                split at hs
                · cases hs
                · obtain ⟨e', he, hz⟩ := Option.map_eq_some_iff.1 hs
                  cases hz
                  obtain ⟨e'', he'', hn⟩ := exi_get hk
                  rw [he] at he''; cases he''; exact hn
            have hx := hd e s5 (by simpa using h3)
            rw [hname] at hx
            intro r hr hn
            have e1 : nix r.G.l s = nix G0.l s := nix_pre hr.pre hx
            refine ⟨.refl _, by simp only; omega, fun _ => ⟨hn, by simp only; omega, nix_le _, fun H hH => ?_⟩⟩
            simp only at hH ⊢
            rw [nix_pre hH.pre (by rw [e1]; exact hx)]
omit hp in
theorem agn_operator (op p q : Int) (l : List Sx) (b : Bnd) (lim lim2 : Nat) (G0 : Gr) (hl : lim ≤ lim2) (hb : BndOk b G0) (hd : Dec E G0) : Agn G0 (operatorF rec op p q l b lim) (operatorF rec2 op p q l b lim2) := by
  unfold operatorF
  by_cases h1 : (manyV op = true ∧ l.length < 2) ∨ (manyV op = false ∧ (l.length : Int) ≠ arityV op)
  · simp only [if_pos h1]; exact agn_fail _ _ (by decide) _
  · simp only [if_neg h1]
    refine agn_thenLn (n := l.length) (agn_all hr l b lim lim2 G0 hl hb hd) (fun r h => seq_len _ _ _ h) fun ids G1 _ hn h => agn_apply op p q ids G1 (fun hm => ?_) h
    rw [hn]
    rcases Nat.lt_or_ge l.length 2 with q | q
    · exact absurd (.inl ⟨hm, q⟩) h1
    · exact q
omit hp in
theorem agn_numbered (h l : List Sx) (b : Bnd) (lim lim2 : Nat) (G0 : Gr) (hl : lim ≤ lim2) (hb : BndOk b G0) (hd : Dec E G0) : Agn G0 (numberedF rec h l b lim) (numberedF rec2 h l b lim2) := by
  unfold numberedF
  match h with
  | [] => exact agn_fail _ _ (by decide) _
  | [_] => exact agn_fail _ _ (by decide) _
  | a :: o :: t =>
    simp only
    by_cases h1 : t = [] ∨ isW a [95] = false ∨ o.list = true
    · simp only [if_pos h1]; exact agn_fail _ _ (by decide) _
    · simp only [if_neg h1]
      by_cases h2 : numbersV (opV o.word.data.toList) = 0 ∨ t.length ≠ numbersV (opV o.word.data.toList)
      · simp only [if_pos h2]; exact agn_fail _ _ (by decide) _
      · simp only [if_neg h2]
        cases numsV t with
        | none => exact agn_fail _ _ (by decide) _
        | some ns => exact agn_operator hr _ _ _ l b lim lim2 G0 hl hb hd
omit hp hr in
theorem agn_bits (l : List Sx) (G0 : Gr) : Agn G0 (bitsF l) (bitsF l) := by
  unfold bitsF
  match l with
  | [] => exact agn_fail _ _ (by decide) _
  | [_] => exact agn_fail _ _ (by decide) _
  | _ :: _ :: _ :: _ => exact agn_fail _ _ (by decide) _
  | [x, y] =>
    simp only
    by_cases h1 : x.list = true ∨ x.word.data.toList.take 2 ≠ [98, 118]
    · simp only [if_pos h1]; exact agn_fail _ _ (by decide) _
    · simp only [if_neg h1]
      split
      · rename_i n w _ _
        by_cases h2 : w < 1 ∨ 128 < w
        · simp only [if_pos h2]; exact agn_fail _ _ (by decide) _
        · simp only [if_neg h2]; exact agn_make _ _
      · exact agn_fail _ _ (by decide) _
omit hp in
theorem agn_let (l : List Sx) (b : Bnd) (lim lim2 : Nat) (G0 : Gr) (hl : lim ≤ lim2) (hb : BndOk b G0) (hd : Dec E G0) : Agn G0 (letF rec l b lim) (letF rec2 l b lim2) := by
  unfold letF
  match l with
  | [] => exact agn_fail _ _ (by decide) _
  | [_] => exact agn_fail _ _ (by decide) _
  | _ :: _ :: _ :: _ => exact agn_fail _ _ (by decide) _
  | [x, y] =>
    simp only
    cases hbd : bindingsV x with
    | inl e =>
      refine agn_fail _ _ ?_ _
      unfold bindingsV at hbd
      repeat' (split at hbd)
      all_goals first | (cases hbd; decide) | cases hbd
    | inr ps => exact agn_thenL (agn_all hr _ b lim lim2 G0 hl hb hd) fun ids G1 h1 h => hr y _ lim lim2 G1 hl (bnd_zip h (hb.ext h1)) (hd.ext h1)
theorem agn_use (s : ByteArray) (l : List Sx) (b : Bnd) (lim lim2 : Nat) (G0 : Gr) (hl : lim ≤ lim2) (hb : BndOk b G0) (hd : Dec E G0) : Agn G0 (useF E rec s l b lim) (useF E2 rec2 s l b lim2) := by
  unfold useF
  cases hs : seenV E lim s with
  | none => exact agn_fail _ _ (by decide) _
  | some z =>
    obtain ⟨i, e⟩ := z
    rw [seen_pre hp hl hs]
    simp only
    by_cases h1 : e.defined = false
    · simp only [if_pos h1]; exact agn_fail _ _ (by decide) _
    · simp only [if_neg h1]
      by_cases h2 : l.length ≠ e.params.length
      · simp only [if_pos h2]; exact agn_fail _ _ (by decide) _
      · simp only [if_neg h2]
        refine agn_thenL (agn_all hr l b lim lim2 G0 hl hb hd) fun ids G1 h1 h => ?_
        have key : ∀ H : Gr, Ext G1 H → ((ids.zip e.params).any fun p => sortAt H.l p.1 != p.2.2) = ((ids.zip e.params).any fun p => sortAt G1.l p.1 != p.2.2) := by
          intro H hH
          rw [Bool.eq_iff_iff, List.any_eq_true, List.any_eq_true]
          constructor
          all_goals (
            rintro ⟨p, hpm, hpe⟩
            refine ⟨p, hpm, ?_⟩
            have hid := h _ (List.of_mem_zip hpm).1
            have := sortAt_pre hH.pre (id := (p.1 : Int)) (by omega) (by omega)
            simp only [this] at hpe ⊢
            exact hpe)
        by_cases ha : ((ids.zip e.params).any fun p => sortAt G1.l p.1 != p.2.2) = true
        · intro r hr hn
          dsimp only
          rw [if_pos (by rw [key _ hr]; exact ha)]
          exact ⟨.refl _, by simp only [failF]; omega, fun q => by simp [failF] at q⟩
        · intro r hr' hn
          obtain ⟨j1, j2, j3⟩ := agn_body hr e i ids G1 (hd.ext h1) h r hr' hn
          dsimp only
          rw [if_neg (by rw [key _ hr']; exact ha)]
          refine ⟨j1, j2, fun q => ?_⟩
          obtain ⟨k1, k2, k3, k4⟩ := j3 q
          refine ⟨k1, k2, k3, fun H hH => ?_⟩
          rw [if_neg (by rw [key _ ((hr'.trans j1).trans hH)]; exact ha)]
          exact k4 H hH
theorem agn_list (l : List Sx) (b : Bnd) (lim lim2 : Nat) (G0 : Gr) (hl : lim ≤ lim2) (hb : BndOk b G0) (hd : Dec E G0) : Agn G0 (listF E rec l b lim) (listF E2 rec2 l b lim2) := by
  unfold listF
  match l with
  | [] => exact agn_fail _ _ (by decide) _
  | h :: t =>
    simp only
    by_cases h1 : h.list = true
    · simp only [if_pos h1]; exact agn_numbered hr _ _ b lim lim2 G0 hl hb hd
    · simp only [if_neg h1]
      by_cases h2 : h.word.data.toList = [108, 101, 116]
      · simp only [if_pos h2]; exact agn_let hr _ b lim lim2 G0 hl hb hd
      · simp only [if_neg h2]
        by_cases h3 : h.word.data.toList = [95]
        · simp only [if_pos h3]; exact agn_bits _ _
        · simp only [if_neg h3]
          by_cases h4 : nameB h.word.data.toList = true
          · simp only [if_pos h4]; exact agn_use hp hr _ _ b lim lim2 G0 hl hb hd
          · simp only [if_neg h4]
            by_cases h5 : opV h.word.data.toList = 0
            · simp only [if_pos h5]; exact agn_fail _ _ (by decide) _
            · simp only [if_neg h5]
              by_cases h6 : numbersV (opV h.word.data.toList) ≠ 0
              · simp only [if_pos h6]; exact agn_fail _ _ (by decide) _
              · simp only [if_neg h6]; exact agn_operator hr _ _ _ t b lim lim2 G0 hl hb hd
end
theorem tm_ok {E E2 : List Ent} (hp : E <+: E2) : ∀ k, TmOk E (tmF E k) (tmF E2 k)
  | 0 => fun _ _ _ _ _ _ _ _ => agn_fail _ _ (by decide) _
  | k + 1 => by
    intro x b lim lim2 G0 hl hb hd r hr hn
    simp only [tmF]
    by_cases h1 : 65536 ≤ r.n
    · rw [if_pos h1]
      exact ⟨.refl _, by simp only [failF]; omega, fun q => by simp [failF] at q⟩
    · rw [if_neg h1]
      by_cases h2 : x.list = false
      · rw [if_pos h2]
        obtain ⟨j1, j2, j3⟩ := agn_word hp (tm_ok hp k) x.word b lim lim2 G0 hl hb hd { r with n := r.n + 1 } hr (by simp only; omega)
        refine ⟨j1, j2, fun q => ?_⟩
        obtain ⟨k1, k2, k3, k4⟩ := j3 q
        refine ⟨k1, k2, k3, fun H hH => ?_⟩
        rw [if_neg h1, if_pos h2]
        exact k4 H hH
      · rw [if_neg h2]
        obtain ⟨j1, j2, j3⟩ := agn_list hp (tm_ok hp k) x.kids b lim lim2 G0 hl hb hd { r with n := r.n + 1 } hr (by simp only; omega)
        refine ⟨j1, j2, fun q => ?_⟩
        obtain ⟨k1, k2, k3, k4⟩ := j3 q
        refine ⟨k1, k2, k3, fun H hH => ?_⟩
        rw [if_neg h1, if_neg h2]
        exact k4 H hH
/-- What was read once is read again, behind more declarations, definitions and terms. -/
theorem term_again {E E2 : List Ent} (hp : E <+: E2) {x : Sx} {G H : Gr} (hd : Dec E G) (h : (termF E x G).1.2 = 0) (hH : Ext (termF E x G).2.G H) : termF E2 x H = ((termF E x G).1, ⟨(termF E x G).2.n, H⟩) := by
  obtain ⟨_, _, h3⟩ := tm_ok hp 200 x [] E.length E2.length G hp.length_le (fun p hp => by cases hp) hd ⟨0, G⟩ (.refl _) (by simp)
  exact (h3 h).2.2.2 H hH
theorem term_ext {E : List Ent} {x : Sx} {G : Gr} (hd : Dec E G) : Ext G (termF E x G).2.G :=
  (tm_ok (List.prefix_refl E) 200 x [] E.length E.length G (Nat.le_refl _) (fun p hp => by cases hp) hd ⟨0, G⟩ (.refl _) (by simp)).1
end Go.Proofs.YthhnhbpmpdminaaGreatDoor
