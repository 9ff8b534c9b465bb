/-
Operations over the abstract memory that make or write it: each stands for the model's. Conditions: none.
-/
import Derived.Test.YthhnhbpmpdminaaGreatDoorAt
namespace Go.Proofs.YthhnhbpmpdminaaGreatDoor
namespace Ab
set_option maxRecDepth 4096

theorem rep_get {α : Type} (zc : List α) (hz : 0 < zc.length) : ∀ (n i : Nat), i < n * zc.length → ((List.replicate n zc).flatten)[i]? = zc[i % zc.length]?
  | 0, i, h => by simp at h
  | n + 1, i, h => by
    rw [List.replicate_succ, List.flatten_cons]
    by_cases hi : i < zc.length
    · rw [List.getElem?_append_left hi, Nat.mod_eq_of_lt hi]
    · rw [List.getElem?_append_right (by omega), rep_get zc hz n (i - zc.length) (by rw [Nat.add_mul] at h; omega)]
      rw [Nat.mod_eq_sub_mod (a := i) (by omega)]
theorem rep_length {α : Type} (zc : List α) (n : Nat) : ((List.replicate n zc).flatten).length = n * zc.length := by
  induction n with
  | zero => simp
  | succ n ih => rw [List.replicate_succ, List.flatten_cons, List.length_append, ih, Nat.add_mul]; omega
theorem rep_cells {C : Ctx} {zc : List AVal} {zv : Array Value} (h : VRs C zc zv.toList) (hz : 0 < zc.length) (n : Nat) :
    VRs C ((List.replicate n zc).flatten) ((Array.range (n * zc.length)).map (fun i => zv[i % zv.size]!)).toList := by
  have hl : zc.length = zv.size := by have := h.length; simpa using this
  refine VRs.of (by rw [rep_length]; simp) fun i a v ha hv => ?_
  have hi : i < n * zc.length := by
    have := (List.getElem?_eq_some_iff.1 ha).1
    rw [rep_length] at this; exact this
  rw [rep_get zc hz n i hi] at ha
  obtain ⟨v', h1, h2⟩ := h.get ha
  have hm : i % zv.size < zv.size := Nat.mod_lt _ (by omega)
  have : v = v' := by
    simp only [Array.toList_map, List.getElem?_map] at hv
    have hr : (Array.range (n * zc.length)).toList[i]? = some i := by simp [hi]
    rw [hr] at hv
    simp only [Option.map_some, Option.some.injEq] at hv
    rw [hl] at h1
    have h3 : zv[i % zv.size]? = some v' := by simpa using h1
    rw [← hv, getElem!_pos zv _ hm]
    exact (Array.getElem?_eq_some_iff.1 h3).2
  rw [this]; exact h2

/-- What an operation that makes or writes comes to. -/
def EPost (P : Program) (q : Nat → Bool) (C : Ctx) (H' : AHeap) (v : AVal) (ρ : Operand → Value) (o : Oper) (W : World) : Prop :=
  ∃ (C' : Ctx) (v' : Value) (W' : World) (nx : Next), C.Le C' ∧ (execOp ρ o).run P W = .ok nx W' ∧ (nx = .value v' ∨ (nx = .skip ∧ v' = undef)) ∧ VR C' v v' ∧ R P q C' H' W'
section
variable {P : Program} {q : Nat → Bool} {C : Ctx} {H : AHeap} {W : World}
theorem undef_VR (C : Ctx) : VR C (.tup []) undef := .tup _ _ .nil
theorem next_bind (rc : Nat) : VR (C.bind H.next W.heap.size rc) (.ptr (some (H.next, 0))) (.pointer (some ⟨W.heap.size, 0, none⟩)) := .ptr _ _ _ _ (Ctx.bind_self _ _ _ _)
theorem new_other (h : R P q C H W) {x : ABlk} {o : Obj} (hx : ∀ D, BR P D 0 x o) :
    R P q (C.bind H.next W.heap.size 0) (H.new x) { W with heap := W.heap.push o } ∧ C.Le (C.bind H.next W.heap.size 0) :=
  ⟨h.alloc (hx _), Ctx.bind_le h.fresh _ _⟩

theorem amapUpdate_sound (h : R P q C H W) {t : TypeId} {m k x : AVal} {mv kv xv : Value} {H' : AHeap} (hl : amapUpdate P H t m k x = some H') (hm : VR C m mv) (hk : VR C k kv) (hx : VR C x xv) :
    ∃ W', (Instr.mapUpdate t mv kv xv).run P W = .ok () W' ∧ R P q C H' W' := by
  unfold amapUpdate at hl
  split at hl
  · rename_i i r hti
    have hs := tiOf_spec hti
    split at hl
    · rename_i kt et hd
      split at hl
      · rename_i es clock hb
        · cases hm with
          | map _ b rc hφ =>
            obtain ⟨es', h1, h2⟩ := map_of h hb hφ
            have hset : ∀ (o : Obj), (∀ c t f, o ≠ .cells c t f) → (setObj b o).run P W = .ok () { W with heap := W.heap.setIfInBounds b o } := by
              intro o _; simp [setObj, Sem.run, h1]
            have hupd : ∀ o, Upd W { W with heap := W.heap.setIfInBounds b o } b o := fun o => by
              have hlt := (Array.getElem?_eq_some_iff.1 h1).1
              exact ⟨rfl, rfl, rfl, by simp [hlt], fun j hj _ => by simp [Ne.symm hj]⟩
            have hstart : ∀ (f : Option (Nat × Value) → Sem Unit) (r' : Option (Nat × Value)), (∀ W, (Instr.checkKey false 10000 kt kv).run P W = .ok () W) → (∀ W, (Instr.findKey kt kv es'.toList).run P W = .ok r' W) →
                ((do Instr.checkKey false 10000 kt kv; let q ← Instr.findKey kt kv es'.toList; f q : Sem Unit).run P W) = (f r').run P W := by
              intro f r' hc' hr'
              rw [Sem.run_bind, hc', Result.andThen_ok, Sem.run_bind, hr']; rfl
            split at hl
            · cases hl
            · rename_i hf
              simp only [Option.some.injEq] at hl; subst hl
              obtain ⟨r', hc', h3, h4⟩ := afind_sound hf hk h2
              cases h4
              refine ⟨_, ?_, h.put hb hφ (hupd (.map (es'.push { key := kv, val := xv, born := clock }) (clock + 1))) ⟨_, rfl, ?_⟩⟩
              · rw [Instr.mapUpdate, Sem.run_bind, run_und hs, Result.andThen_ok, hd]
                show ((getObj b >>= _ : Sem Unit).run P W) = _
                rw [Sem.run_bind, run_getMap h1, Result.andThen_ok]
                exact (hstart _ _ hc' h3).trans (hset _ (fun _ _ _ q => by cases q))
              · rw [Array.toList_push]
                exact h2.snoc ⟨hk, hx, rfl⟩
            · rename_i j v hf
              split at hl
              · cases hl
              · rename_i e he
                split at hl
                · rename_i ce ck hce hck
                  have hkk := conc_VR 8 hck hk
                  subst hkk
                  cases hsb : Instr.sameBits 10000 ce kv with
                  | false => rw [hsb] at hl; cases hl
                  | true =>
                    rw [hsb] at hl; simp only [cond_true, Option.some.injEq] at hl; subst hl
                    obtain ⟨r', hc', h3, h4⟩ := afind_sound hf hk h2
                    cases h4 with
                    | some _ _ v' hv' =>
                      obtain ⟨e', he', her⟩ := h2.get he
                      have hek := conc_VR 8 hce her.key
                      subst hek
                      refine ⟨_, ?_, h.put hb hφ (hupd (.map (es'.modify j fun e => { e with key := kv, val := xv }) clock)) ⟨_, rfl, ?_⟩⟩
                      · rw [Instr.mapUpdate, Sem.run_bind, run_und hs, Result.andThen_ok, hd]
                        show ((getObj b >>= _ : Sem Unit).run P W) = _
                        rw [Sem.run_bind, run_getMap h1, Result.andThen_ok]
                        refine (hstart _ _ hc' h3).trans ?_
                        have hej : es'[j]? = some e' := by simpa using he'
                        have hkey : (((es'[j]?).map (·.key)).getD kv) = e'.key := by rw [hej]; rfl
                        show ((Instr.keyThatStays (((es'[j]?).map (·.key)).getD kv) kv >>= _ : Sem Unit).run P W) = _
                        rw [hkey, Sem.run_bind, Instr.keyThatStays, if_pos hsb, Sem.run_pure, Result.andThen_ok]
                        exact hset _ (fun _ _ _ q => by cases q)
                      · have : (es'.modify j fun e => { e with key := kv, val := xv }).toList = es'.toList.set j { e' with key := kv, val := xv } := by
                          rw [Array.toList_modify]
                          apply List.ext_getElem?
                          intro q
                          rw [List.getElem?_modify, List.getElem?_set]
                          by_cases e : j = q
                          · subst e
                            rw [if_pos rfl, if_pos (List.getElem?_eq_some_iff.1 he').1, he']; simp
                          · rw [if_neg e]; simp [e]
                        rw [this]
                        exact h2.set j ⟨hk, hx, her.born⟩
                · cases hl
      · cases hl
    · cases hl
  · cases hl
end
end Ab
end Go.Proofs.YthhnhbpmpdminaaGreatDoor
