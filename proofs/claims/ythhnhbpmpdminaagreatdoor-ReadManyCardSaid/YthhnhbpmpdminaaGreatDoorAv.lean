/-
Appending in the abstract memory stands for the model's, in place or moved. Conditions: none.
-/
import Derived.Test.YthhnhbpmpdminaaGreatDoorAu
import Derived.Deep.AppendSrc
import Derived.Deep.Upon
namespace Go.Proofs.YthhnhbpmpdminaaGreatDoor
namespace Ab
set_option maxRecDepth 4096

theorem vsetL_take : ∀ (vs l : List Value) (a : Nat), a + vs.length ≤ l.length → (vsetL l a vs).take (a + vs.length) = l.take a ++ vs
  | [], l, a, _ => by simp [vsetL]
  | v :: vs, l, a, h => by
    simp only [List.length_cons] at h
    have := vsetL_take vs (l.set a v) (a + 1) (by simp; omega)
    rw [vsetL, List.length_cons, show a + (vs.length + 1) = a + 1 + vs.length by omega, this]
    rw [List.take_succ_eq_append_getElem (by simp; omega)]
    simp [List.take_set_of_le]
theorem setCells_upd {k : Nat} {t : TypeId} : ∀ (vs : List Value) (o : Nat) (W : World) (c : Array Value), W.heap[k]? = some (.cells c t (0, 0)) →
    Upd W (W.setCells k o vs) k (.cells (vsetL c.toList o vs).toArray t (0, 0))
  | [], o, W, c, h => ⟨rfl, rfl, rfl, by simpa [World.setCells, vsetL] using h, fun _ _ _ => rfl⟩
  | v :: vs, o, W, c, h => by
    have u := heap_setCell_at (i := o) h v
    have r := setCells_upd vs (o + 1) _ _ u.here
    have hs : W.heap.size ≤ (W.setCell ⟨k, o, none⟩ v).heap.size := by simp [World.setCell]
    refine ⟨r.os.trans u.os, r.tape.trans u.tape, r.output.trans u.output, ?_, fun j hj hl => (r.else_ j hj (by omega)).trans (u.else_ j hj hl)⟩
    have := r.here
    simpa [World.setCells, vsetL] using this

section
variable {P : Program} {q : Nat → Bool} {C : Ctx} {H : AHeap} {W : World}
theorem afirst_sound (h : R P q C H W) {size : Nat} {u : TypeId} {x : AVal} {xv : Value} {n : Nat} {l : List AVal} (hf : afirst H size x = some (n, l)) (hx : VR C x xv)
    (hk : (∃ e', P.underlying u = some (.slice e')) ∨ (P.underlying u = some .string ∧ size = 1)) (hku : (∀ s, x ≠ .str s) → ∃ e', P.underlying u = some (.slice e')) (hks : (∃ s, x = .str s) → P.underlying u = some .string ∧ size = 1) (h1 : l.all oneA = true) :
    ∃ vs, VRs C l vs ∧ Src P size u xv n vs W := by
  have one : ∀ (l : List AVal) (vs : List Value), VRs C l vs → l.all oneA = true → ∀ v ∈ vs, v.oneCell' = true := by
    intro l
    induction l with
    | nil => intro vs hv _ v hm; cases hv; cases hm
    | cons a l ih =>
      intro vs hv h1 v hm
      cases hv with
      | cons _ w _ vs' ha ht =>
        simp only [List.all_cons, Bool.and_eq_true] at h1
        rcases List.mem_cons.1 hm with e | e
        · subst e; exact oneA_VR ha h1.1
        · exact ih vs' ht h1.2 v e
  cases hx with
  | slN own =>
    simp only [afirst, Option.some.injEq, Prod.mk.injEq] at hf
    obtain ⟨rfl, rfl⟩ := hf
    obtain ⟨e', he'⟩ := hku (fun s q => by cases q)
    exact ⟨[], .nil, Src.ofNil W he' 0⟩
  | sl b o len cap own k rc cap' hφ hlc hcc hown =>
    obtain ⟨e', he'⟩ := hku (fun s q => by cases q)
    simp only [afirst] at hf
    split at hf
    · rename_i t row l0 hb
      cases hle : Nat.ble (o + len * size) l0.length with
      | false => rw [hle] at hf; cases hf
      | true =>
        rw [hle] at hf; simp only [cond_true, Option.some.injEq, Prod.mk.injEq] at hf
        obtain ⟨rfl, rfl⟩ := hf
        have hle := Nat.le_of_ble_eq_true hle
        obtain ⟨c, hc, hv, hs, _⟩ := cells_of h hb hφ
        have hvs := (hv.drop o).take (len * size)
        refine ⟨_, hvs, Src.ofSlice W he' _ len cap' _ (by rw [← hvs.length]; simp; omega) (fun j w hj => ?_) (one _ _ hvs h1)⟩
        rw [Addr.add_mk]
        unfold World.cell?
        rw [hc]
        rw [List.getElem?_take] at hj
        split at hj
        · rw [List.getElem?_drop, List.getElem?_take] at hj
          split at hj
          · simpa using hj
          · cases hj
        · cases hj
    · cases hf
  | ro n0 l0 k o c hr hc =>
    obtain ⟨e', he'⟩ := hku (fun s q => by cases q)
    simp only [afirst] at hf
    cases hle : Nat.beq l0.length (n0 * size) with
    | false => rw [hle] at hf; cases hf
    | true =>
      rw [hle] at hf; simp only [cond_true, Option.some.injEq, Prod.mk.injEq] at hf
      obtain ⟨rfl, rfl⟩ := hf
      have hle := Nat.eq_of_beq_eq_true hle
      obtain ⟨k', o', vs, e, g1, g2, g3⟩ := ld_sound h (a := .rp l0) (v := .pointer (some ⟨k, o, none⟩)) (n := l0.length) (l := l0) (by simp only [ldCells, List.take_length]; rw [Nat.ble_eq_true_of_le (Nat.le_refl _)]; rfl) (.rp _ _ _ hr)
      cases e
      exact ⟨vs, g1, Src.ofSlice W he' _ n0 c vs (by rw [g2, hle]) (fun j w hj => by rw [Addr.add_mk]; exact g3 j w hj) (one _ _ g1 h1)⟩
  | str s =>
    obtain ⟨hu, hs1⟩ := hks ⟨_, rfl⟩
    simp only [afirst, Option.some.injEq, Prod.mk.injEq] at hf
    obtain ⟨rfl, rfl⟩ := hf
    have hl : s.data.toList.length = s.size := by rw [Array.length_toList]; rfl
    rw [hl]
    subst hs1
    refine ⟨byteCells s, ?_, Src.ofString W hu s⟩
    unfold byteCells
    generalize s.data.toList = bs
    induction bs with
    | nil => exact .nil
    | cons b bs ih => exact .cons _ _ _ _ (.int _ _) ih
  | _ => simp [afirst] at hf

/-- What an append comes to. -/
def APost (P : Program) (q : Nat → Bool) (C : Ctx) (H' : AHeap) (v : AVal) (s : Sem Value) (W : World) : Prop :=
  ∃ (C' : Ctx) (v' : Value) (W' : World), C.Le C' ∧ s.run P W = .ok v' W' ∧ VR C' v v' ∧ R P q C' H' W'
theorem zeroCells_size (z : Array Value) (n : Nat) : (Builtin.zeroCells z n).size = n * z.size := by simp [Builtin.zeroCells]
theorem drew_R (h : R P q C H W) : R P q C H W.drew := h.drew _

theorem grow_moved (h : R P q C H W) {t u ty e : TypeId} {inf : TypeInfo} {z : Value} (ht : P.underlying t = some (.slice e)) (hi : P.info? e = some inf) (hz : inf.zero = some z) (hzs : z.cells.size = inf.size)
    (base : Option Addr) (n cap' : Nat) (olds : List Value) (hol : olds.length = n * inf.size) (hold : (Builtin.firstCells inf.size n (.slice base n cap')).run P W.drew = .ok olds.toArray W.drew)
    {xv : Value} {m : Nat} {news : List Value} (hs : Src P inf.size u xv m news W) (hg : cap' < n + m) (hb : (n + m) * inf.bytes ≤ 140737488355328) (h63 : n + m ≤ 9223372036854775807)
    {l : List AVal} (hl : VRs C l (olds ++ news)) :
    APost P q C (H.new (.cells e true l)) (.sl (some (H.next, 0)) (n + m) (n + m) true) (Builtin.append_ #[t, u] ty #[.slice base n cap', xv]) W := by
  have hcap : Builtin.nextslicecap (n + m) cap' * inf.bytes ≤ 281474976710656 := by
    have h1 := nextslicecap_le (need := n + m) (old := cap') hg
    have h2 := Nat.mul_le_mul_right inf.bytes h1
    have h3 : 2 * (n + m) * inf.bytes = 2 * ((n + m) * inf.bytes) := Nat.mul_assoc _ _ _
    omega
  have hrun := run_append_grow_src (P := P) W t u ty e inf z ht hi hz base n cap' olds hold xv m news hs hg (by omega) hcap
  have hge := grownCap_ge W (n + m) cap' e
  have hle := grownCap_le_maxLen W (n + m) cap' e (by simp only [maxLen]; omega)
  generalize hgc : grownCap W (n + m) cap' e = gc at *
  have hd := drew_R h
  have hfr := Ctx.bind_le h.fresh W.heap.size gc
  have hll := hl.length
  simp only [List.length_append] at hll
  have hsz : ((olds ++ news).toArray ++ Builtin.zeroCells z.cells (gc - (n + m))).size = gc * inf.size := by
    rw [Array.size_append, zeroCells_size, hzs]
    simp only [List.size_toArray, List.length_append, hol, hs.newsLen]
    rw [← Nat.add_mul, ← Nat.add_mul]
    congr 1; omega
  refine ⟨C.bind H.next W.heap.size gc, _, _, hfr, hrun, .sl _ _ _ _ _ _ _ _ (Ctx.bind_self _ _ _ _) (Nat.le_refl _) hge (fun _ => ⟨rfl, rfl⟩), ?_⟩
  refine hd.alloc (rc := gc) ⟨_, rfl, ?_, fun _ => ⟨hle, inf, hi, hsz⟩⟩
  have hl' := hl.mono hfr
  have : (((olds ++ news).toArray ++ Builtin.zeroCells z.cells (gc - (n + m))).toList.take l.length) = olds ++ news := by
    rw [Array.toList_append]
    simp only [List.take_append_of_le_length (show l.length ≤ (olds ++ news).length by simp; omega)]
    rw [List.take_of_length_le (by simp; omega)]
  rw [this]
  exact hl'
theorem afirst_len {size : Nat} {x : AVal} {n : Nat} {l : List AVal} (hf : afirst H size x = some (n, l)) (hs : ∀ s, x = .str s → size = 1) : l.length = n * size := by
  unfold afirst at hf
  split at hf
  · simp only [Option.some.injEq, Prod.mk.injEq] at hf; obtain ⟨rfl, rfl⟩ := hf; simp
  · split at hf
    · rename_i o n0 _ _ _ _ _ l0 _
      cases hle : Nat.ble (o + n0 * size) l0.length with
      | false => rw [hle] at hf; cases hf
      | true =>
        rw [hle] at hf; simp only [cond_true, Option.some.injEq, Prod.mk.injEq] at hf
        obtain ⟨rfl, rfl⟩ := hf
        have := Nat.le_of_ble_eq_true hle
        simp; omega
    · cases hf
  · rename_i n0 l0
    cases hle : Nat.beq l0.length (n0 * size) with
    | false => rw [hle] at hf; cases hf
    | true =>
      rw [hle] at hf; simp only [cond_true, Option.some.injEq, Prod.mk.injEq] at hf
      obtain ⟨rfl, rfl⟩ := hf
      exact Nat.eq_of_beq_eq_true hle
  · rename_i s
    simp only [Option.some.injEq, Prod.mk.injEq] at hf; obtain ⟨rfl, rfl⟩ := hf
    rw [hs s rfl]; simp
  · cases hf
theorem srcOk_spec {iu ie : TI} {x : AVal} (h : srcOk iu ie x = true) : ((∀ s, x ≠ .str s) ∧ ∃ e', iu.desc = .slice e') ∨ ((∃ s, x = .str s) ∧ iu.desc = .string ∧ ie.size = 1) := by
  unfold srcOk at h
  cases hd : iu.desc with
  | slice e =>
    rw [hd] at h
    refine .inl ⟨?_, e, rfl⟩
    rintro s rfl
    cases h
  | string =>
    rw [hd] at h
    cases x with
    | str s =>
      simp only [Bool.and_eq_true] at h
      exact .inr ⟨⟨s, rfl⟩, rfl, Nat.eq_of_beq_eq_true h.1⟩
    | _ => cases h
  | _ => rw [hd] at h; cases x <;> cases h
set_option maxHeartbeats 1000000 in
theorem aappend_sound (h : R P q C H W) {t u ty : TypeId} {s x v : AVal} {sv xv : Value} {H' : AHeap} (hl : aappend P H t u s x = some (v, H')) (hsv : VR C s sv) (hx : VR C x xv) :
    APost P q C H' v (Builtin.append_ #[t, u] ty #[sv, xv]) W := by
  unfold aappend at hl
  split at hl
  · rename_i i iu hti htu
    have hs := tiOf_spec hti
    have hus := tiOf_spec htu
    split at hl
    · rename_i e hd
      split at hl
      · cases hl
      · rename_i ie hie
        have hes := tiOf_spec hie
        obtain ⟨inf, z, hi, hsz, hby, hz, hzz⟩ := hes.inf
        have ht : P.underlying t = some (.slice e) := by rw [hs.desc, hd]
        cases hc : (srcOk iu ie x && Nat.blt 0 ie.size && Nat.beq (cellsA ie.zero).length ie.size) with
        | false => rw [hc] at hl; cases hl
        | true =>
          rw [hc] at hl; simp only [cond_true] at hl
          simp only [Bool.and_eq_true] at hc
          obtain ⟨⟨c1, c2⟩, c3⟩ := hc
          have c2 := Nat.blt_eq.mp c2
          have c3 := Nat.eq_of_beq_eq_true c3
          have hzc : VRs C (cellsA ie.zero) z.cells.toList := by rw [hzz]; exact zero_cells C z 7
          have hzs : z.cells.size = inf.size := by
            have h9 : (cellsA ie.zero).length = z.cells.size := by have := hzc.length; simpa using this
            omega
          have hsrc : ∀ {n : Nat} {l : List AVal}, afirst H ie.size x = some (n, l) → l.all oneA = true → ∃ vs, VRs C l vs ∧ Src P ie.size u xv n vs W := by
            intro n l hf h1
            have k := srcOk_spec c1
            have k1 : (∀ s, x ≠ .str s) → ∃ e', P.underlying u = some (.slice e') := fun hx0 => by
              rcases k with ⟨_, e', he'⟩ | ⟨⟨s0, hs0⟩, _⟩
              · exact ⟨e', by rw [hus.desc, he']⟩
              · exact absurd hs0 (hx0 s0)
            have k2 : (∃ s, x = .str s) → P.underlying u = some .string ∧ ie.size = 1 := fun hx0 => by
              rcases k with ⟨hn, _⟩ | ⟨_, h2, h3⟩
              · obtain ⟨s0, hs0⟩ := hx0; exact absurd hs0 (hn s0)
              · exact ⟨by rw [hus.desc, h2], h3⟩
            refine afirst_sound h hf hx ?_ k1 k2 h1
            by_cases hx0 : ∃ s, x = .str s
            · exact .inr (k2 hx0)
            · exact .inl (k1 fun s q => hx0 ⟨s, q⟩)
          split at hl
          · cases hl
          · rename_i l0 hf
            have hl0 : l0 = [] := by
              have := afirst_len hf (fun s0 q => by
                rcases srcOk_spec c1 with ⟨hn, _⟩ | ⟨_, _, h3⟩
                · exact absurd q (hn s0)
                · exact h3)
              rw [Nat.zero_mul] at this
              exact List.length_eq_zero_iff.1 this
            subst hl0
            obtain ⟨vs, hvs, hsr⟩ := hsrc hf rfl
            cases hvs
            have hrun : ∀ (base : Option Addr) (n c : Nat), n ≤ c → (Builtin.append_ #[t, u] ty #[.slice base n c, xv]).run P W = .ok (.slice base n c) W := fun base n c hnc =>
              run_append_nothing W t u ty e inf ht hi base n c hnc xv (by rw [hsz]; exact hsr)
            split at hl
            · simp only [Option.some.injEq, Prod.mk.injEq] at hl
              obtain ⟨rfl, rfl⟩ := hl
              cases hsv with
              | slN own => exact ⟨C, _, W, .refl C, hrun none 0 0 (Nat.le_refl _), .slN _, h⟩
              | sl b o len cap own k rc cap' hφ hlc hcc hown => exact ⟨C, _, W, .refl C, hrun _ _ cap' (Nat.le_trans hlc hcc), .sl _ _ _ _ _ _ _ _ hφ hlc hcc hown, h⟩
            · cases hl
          · rename_i m news hf
            cases h1 : news.all oneA with
            | false => rw [h1] at hl; cases hl
            | true =>
              rw [h1] at hl; simp only [cond_true] at hl
              obtain ⟨vs, hvs, hsr⟩ := hsrc hf h1
              rw [← hsz] at hsr
              have hnl : news.length = vs.length := hvs.length
              split at hl
              · rename_i own
                cases hcc : (Nat.ble ((m + 1) * ie.bytes) 140737488355328 && Nat.ble (m + 1) 9223372036854775807) with
                | false => rw [hcc] at hl; cases hl
                | true =>
                  rw [hcc] at hl; simp only [cond_true, Option.some.injEq, Prod.mk.injEq] at hl
                  simp only [Bool.and_eq_true] at hcc
                  obtain ⟨rfl, rfl⟩ := hl
                  cases hsv
                  have := grow_moved (ty := ty) h ht hi hz hzs none 0 0 [] (by simp) (by simpa using run_firstCells_none (P := P) W.drew inf.size 0 0 0) hsr (by omega)
                    (by rw [hby, Nat.zero_add]; exact Nat.le_of_ble_eq_true hcc.1) (by rw [Nat.zero_add]; exact Nat.le_of_ble_eq_true hcc.2) (l := news) (by simpa using hvs)
                  rw [Nat.zero_add] at this
                  exact this
              · rename_i b n cap
                split at hl
                · rename_i be l hb
                  cases hcc : (Nat.beq be e && Nat.ble (n * ie.size) l.length) with
                  | false => rw [hcc] at hl; cases hl
                  | true =>
                    rw [hcc] at hl; simp only [cond_true] at hl
                    simp only [Bool.and_eq_true] at hcc
                    have hbe := Nat.eq_of_beq_eq_true hcc.1
                    have hnl2 := Nat.le_of_ble_eq_true hcc.2
                    subst hbe
                    cases hsv with
                    | sl _ _ _ _ _ k rc cap' hφ hlc hcp hown =>
                      obtain ⟨_, hcr⟩ := hown rfl
                      obtain ⟨c, hck, hcv, hcs, hrow⟩ := cells_of h hb hφ
                      obtain ⟨hrc, inf2, hi2, hc2⟩ := hrow rfl
                      rw [hi] at hi2; cases hi2
                      have hvl : vs.length = (m + 1) * inf.size := hsr.newsLen
                      have cellsOk : n * inf.size + vs.length ≤ c.size → (∀ j, j < vs.length → (W.cell? ⟨k, 0 + n * inf.size + j, none⟩).isSome = true) ∧ (∀ j, j < vs.length → W.frozen? ⟨k, 0 + n * inf.size + j, none⟩ = false) := by
                        intro hle
                        refine ⟨fun j hj => ?_, fun j hj => ?_⟩
                        · unfold World.cell?; rw [hck]; simp; omega
                        · unfold World.frozen?; rw [hck]; simp
                      cases hroom : Nat.ble (n + (m + 1)) cap with
                      | true =>
                        rw [hroom] at hl; simp only [cond_true] at hl
                        have hroom := Nat.le_of_ble_eq_true hroom
                        cases hfit : Nat.ble (n * ie.size + news.length) l.length with
                        | false => rw [hfit] at hl; cases hl
                        | true =>
                          rw [hfit] at hl; simp only [cond_true, Option.some.injEq, Prod.mk.injEq] at hl
                          have hfit := Nat.le_of_ble_eq_true hfit
                          obtain ⟨rfl, rfl⟩ := hl
                          rw [← hsz] at hfit ⊢
                          obtain ⟨ok1, ok2⟩ := cellsOk (by omega)
                          have hrun := run_append_room_src (P := P) W t u ty be inf ht hi k 0 n cap' xv (m + 1) vs hsr (by omega) ok1 ok2
                          obtain ⟨W', r1, r2⟩ := store_cells hφ (n * inf.size) news vs 0 H W l h hb hvs h1 (by omega)
                          have r3 := run_storeCells_cells (P := P) k (n * inf.size) vs 0 W (by simpa using ok1) (by simpa using ok2) hsr.one
                          rw [r1] at r3
                          cases r3
                          refine ⟨C, _, _, .refl C, hrun, .sl _ _ _ _ _ _ _ _ hφ hroom hcp (fun _ => ⟨rfl, hcr⟩), ?_⟩
                          simpa using r2
                      | false =>
                        rw [hroom] at hl; simp only [cond_false] at hl
                        cases hcc2 : (Nat.ble ((n + (m + 1)) * ie.bytes) 140737488355328 && Nat.ble (n + (m + 1)) 9223372036854775807 && (l.take (n * ie.size)).all oneA) with
                        | false => rw [hcc2] at hl; cases hl
                        | true =>
                          rw [hcc2] at hl; simp only [cond_true, Option.some.injEq, Prod.mk.injEq] at hl
                          simp only [Bool.and_eq_true] at hcc2
                          obtain ⟨⟨d1, d2⟩, d3⟩ := hcc2
                          have d1 := Nat.le_of_ble_eq_true d1
                          have d2 := Nat.le_of_ble_eq_true d2
                          obtain ⟨rfl, rfl⟩ := hl
                          rw [← hsz] at hnl2 ⊢
                          rw [← hby] at d1
                          have hold := hcv.take (n * inf.size)
                          have hlen : ((c.toList.take l.length).take (n * inf.size)).length = n * inf.size := by rw [← hold.length]; simp; omega
                          have htk : (c.toList.take l.length).take (n * inf.size) = c.toList.take (n * inf.size) := by rw [List.take_take]; congr 1; omega
                          rw [htk] at hold hlen
                          have hall := hold.append hvs
                          by_cases hin : n + (m + 1) ≤ cap'
                          · have hfit : n * inf.size + vs.length ≤ c.size := by
                              rw [hc2, ← hcr, hvl, ← Nat.add_mul]
                              exact Nat.mul_le_mul_right _ hin
                            obtain ⟨ok1, ok2⟩ := cellsOk hfit
                            have hrun := run_append_room_src (P := P) W t u ty be inf ht hi k 0 n cap' xv (m + 1) vs hsr hin ok1 ok2
                            have hup := setCells_upd vs (0 + n * inf.size) W c hck
                            have hk := h.kill b
                            have hfr := Ctx.bind_le h.fresh k rc
                            refine ⟨C.bind H.next k rc, _, _, hfr, hrun, .sl _ _ _ _ _ _ _ _ (Ctx.bind_self _ _ _ _) (Nat.le_refl _) hin (fun _ => ⟨rfl, hcr⟩), ?_⟩
                            refine hk.new hup.os hup.tape hup.output hup.here (h.blk b _ hb k rc hφ).1 hup.else_ (fun b' y rc' hb' hφ' => ?_) ⟨_, rfl, ?_, fun _ => ⟨hrc, inf, hi, ?_⟩⟩
                            · rw [AHeap.get_kill] at hb'
                              by_cases e : b' = b
                              · rw [if_pos e] at hb'; cases hb'
                              · rw [if_neg e] at hb'
                                exact e (h.inj b' b (by rw [hb']; exact fun q => by cases q) (by rw [hb]; exact fun q => by cases q) k rc' rc hφ' hφ)
                            · have hl9 := hall.length
                              rw [List.length_append (as := c.toList.take (n * inf.size)), hlen] at hl9
                              have : ((vsetL c.toList (0 + n * inf.size) vs).toArray.toList.take (l.take (n * inf.size) ++ news).length) = c.toList.take (n * inf.size) ++ vs := by
                                rw [hl9, List.toList_toArray, Nat.zero_add]
                                exact vsetL_take vs c.toList (n * inf.size) (by rw [Array.length_toList]; exact hfit)
                              rw [this]
                              exact hall.mono hfr
                            · rw [List.size_toArray, vsetL_length, Array.length_toList]; exact hc2
                          · refine grow_moved (ty := ty) (h.kill b) ht hi hz hzs (some ⟨k, 0, none⟩) n cap' (c.toList.take (n * inf.size)) hlen ?_ hsr (by omega) d1 d2 hall
                            refine run_firstCells_some (P := P) W.drew inf.size n _ n cap' _ hlen (fun j w hj => ?_)
                            rw [Addr.add_mk]
                            unfold World.cell?
                            show (match W.heap[k]? with | some (.cells c _ _) => _ | _ => none) = _
                            rw [hck]
                            rw [List.getElem?_take] at hj
                            split at hj
                            · simpa using hj
                            · cases hj
                · cases hl
              · cases hl
    · cases hl
  · cases hl
end
end Ab
end Go.Proofs.YthhnhbpmpdminaaGreatDoor
