/-
Pure operations over the abstract memory, all of them. Conditions: none.
-/
import Derived.Test.YthhnhbpmpdminaaGreatDoorAo
namespace Go.Proofs.YthhnhbpmpdminaaGreatDoor
namespace Ab
set_option maxRecDepth 4096

section
variable {P : Program} {C : Ctx}
/-- Both bounds, without a third one. -/
theorem bounds_sound {lo hi : Option AVal} {lov hiv : Option Value} {len cap cap' h l : Nat} (isS : Bool) (hh : abound hi len cap = some h) (hl : abound lo 0 h = some l)
    (hlo : VRo C lo lov) (hhi : VRo C hi hiv) (hc : cap ≤ cap') (hlen : len ≤ cap) (W : World) :
    (Instr.sliceBounds isS len cap' lov hiv none).run P W = .ok (l, h, cap') W ∧ l ≤ h ∧ h ≤ cap := by
  cases hhi with
  | none =>
    simp only [abound, Option.some.injEq] at hh
    subst hh
    cases hlo with
    | none => simp only [abound, Option.some.injEq] at hl; subst hl; exact ⟨by simp [Instr.sliceBounds], Nat.zero_le _, hlen⟩
    | some a v hv =>
      obtain ⟨h1, h2⟩ := bound_sound (P := P) hl hv len (Nat.le_refl _) .sliceB W
      exact ⟨by simp [Instr.sliceBounds, h1], h2, hlen⟩
  | some a v hv =>
    obtain ⟨h1, h2⟩ := bound_sound (P := P) hh hv cap' hc (if isS then .sliceAcap else .sliceAlen) W
    cases hlo with
    | none => simp only [abound, Option.some.injEq] at hl; subst hl; exact ⟨by simp [Instr.sliceBounds, h1], Nat.zero_le _, h2⟩
    | some a' v' hv' =>
      obtain ⟨h3, h4⟩ := bound_sound (P := P) hl hv' h (Nat.le_refl _) .sliceB W
      exact ⟨by simp [Instr.sliceBounds, h1, h3], h4, h2⟩
theorem bounds3_sound {lo hi mx : Option AVal} {lov hiv mxv : Option Value} {len cap cap' m h l : Nat} (hm : abound mx cap cap = some m) (hmx : mx ≠ none) (hhn : hi ≠ none)
    (hh : abound hi 0 m = some h) (hl : abound lo 0 h = some l)
    (hlo : VRo C lo lov) (hhi : VRo C hi hiv) (hmv : VRo C mx mxv) (hc : cap ≤ cap') (W : World) :
    (Instr.sliceBounds true len cap' lov hiv mxv).run P W = .ok (l, h, m) W ∧ l ≤ h ∧ h ≤ m ∧ m ≤ cap := by
  cases hmv with
  | none => exact absurd rfl hmx
  | some a0 v0 hv0 =>
    cases hhi with
    | none => exact absurd rfl hhn
    | some a v hv =>
      obtain ⟨h0, h0'⟩ := bound_sound (P := P) hm hv0 cap' hc .slice3Acap W
      obtain ⟨h1, h2⟩ := bound_sound (P := P) hh hv m (Nat.le_refl _) .slice3B W
      cases hlo with
      | none => simp only [abound, Option.some.injEq] at hl; subst hl; exact ⟨by simp [Instr.sliceBounds, h0, h1], Nat.zero_le _, h2, h0'⟩
      | some a' v' hv' =>
        obtain ⟨h3, h4⟩ := bound_sound (P := P) hl hv' h (Nat.le_refl _) .slice3C W
        exact ⟨by simp [Instr.sliceBounds, h0, h1, h3], h4, h2, h0'⟩

theorem aslice_sound {t : TypeId} {x a : AVal} {xv : Value} {lo hi mx : Option AVal} {lov hiv mxv : Option Value} (h : aslice P t x lo hi mx = some a) (hx : VR C x xv)
    (hlo : VRo C lo lov) (hhi : VRo C hi hiv) (hmx : VRo C mx mxv) :
    ∃ v, (∀ W, (Instr.sliceAt t xv lov hiv mxv).run P W = .ok v W) ∧ VR C a v := by
  unfold aslice at h
  split at h
  · cases h
  · rename_i i hti
    have hs := tiOf_spec hti
    split at h
    · rename_i s hd
      split at h
      · cases h
      · cases hmx
        split at h
        · cases h
        · rename_i hh hhe
          split at h
          · cases h
          · rename_i l hle
            simp only [Option.some.injEq] at h; subst h
            cases hx with
            | str s =>
              have hlen : s.data.toList.length = s.size := by rw [Array.length_toList]; rfl
              rw [hlen] at hhe
              have hb := fun W => (bounds_sound (P := P) false hhe hle hlo hhi (Nat.le_refl _) (Nat.le_refl _) W)
              refine ⟨.string (s.extract l hh), fun W => by simp [Instr.sliceAt, Instr.slice, run_und hs, hd, (hb W).1], ?_⟩
              have e : (s.extract l hh).data.toList = (s.data.toList.take hh).drop l := by
                rw [ByteArray.data_extract, Array.toList_extract, List.extract_eq_drop_take', List.drop_take]
              rw [← e]; exact .str _
    · rename_i e own hd
      split at h
      · cases h
      · rename_i ie hie
        have hes := tiOf_spec hie
        split at h
        · cases h
        · cases hmx
          split at h
          · cases h
          · rename_i hh hhe
            split at h
            · cases h
            · rename_i l hle
              simp only [Option.some.injEq] at h; subst h
              cases hx with
              | slN own =>
                have hb := fun W => (bounds_sound (P := P) true hhe hle hlo hhi (Nat.le_refl _) (Nat.le_refl _) W)
                obtain ⟨_, h1, h2⟩ := hb default
                have h0 : hh = 0 := by omega
                have l0 : l = 0 := by omega
                subst h0; subst l0
                exact ⟨.slice none 0 0, fun W => by simp [Instr.sliceAt, Instr.slice, run_und hs, hd, (hb W).1, run_size hes], .slN _⟩
    · rename_i e b o len cap own hd
      split at h
      · cases h
      · rename_i ie hie
        have hes := tiOf_spec hie
        cases hx with
        | sl b o len cap own k rc cap' hφ hlc hcc hown =>
          split at h
          · cases hmx
            split at h
            · cases h
            · rename_i hh hhe
              split at h
              · cases h
              · rename_i hle
                simp only [Option.some.injEq] at h; subst h
                have hb := fun W => (bounds_sound (P := P) true hhe hle hlo hhi hcc hlc W)
                obtain ⟨_, h1, h2⟩ := hb default
                exact ⟨.slice (some ⟨k, o, none⟩) hh cap', fun W => by
                  simp [Instr.sliceAt, Instr.slice, run_und hs, hd, (hb W).1, run_size hes, Addr.add_mk], .sl _ _ _ _ _ _ _ _ hφ h2 hcc hown⟩
              · rename_i l hle
                have hb := fun W => (bounds_sound (P := P) true hhe hle hlo hhi hcc hlc W)
                obtain ⟨_, h1, h2⟩ := hb default
                cases hble : Nat.ble cap (l + 1) with
                | true =>
                  rw [hble] at h; simp only [cond_true, Option.some.injEq] at h; subst h
                  have hble := Nat.le_of_ble_eq_true hble
                  have e0 : hh - (l + 1) = 0 := by omega
                  by_cases hce : cap' = l + 1
                  · subst hce
                    exact ⟨.slice (some ⟨k, o, none⟩) 0 0, fun W => by
                      simp [Instr.sliceAt, Instr.slice, run_und hs, hd, (hb W).1, run_size hes, e0], .ro _ _ _ _ _ (.nil _ _) (Nat.zero_le _)⟩
                  · exact ⟨.slice (some ⟨k, o + (l + 1) * ie.size, none⟩) 0 (cap' - (l + 1)), fun W => by
                      simp [Instr.sliceAt, Instr.slice, run_und hs, hd, (hb W).1, run_size hes, hce, e0, Addr.add_mk], .ro _ _ _ _ _ (.nil _ _) (Nat.zero_le _)⟩
                | false =>
                  rw [hble] at h; simp only [cond_false, Option.some.injEq] at h; subst h
                  have hble : l + 1 < cap := by
                    rcases Nat.lt_or_ge (l + 1) cap with q | q
                    · exact q
                    · rw [Nat.ble_eq_true_of_le q] at hble; cases hble
                  have hce : ¬ cap' = l + 1 := by omega
                  exact ⟨.slice (some ⟨k, o + (l + 1) * ie.size, none⟩) (hh - (l + 1)) (cap' - (l + 1)), fun W => by
                    simp [Instr.sliceAt, Instr.slice, run_und hs, hd, (hb W).1, run_size hes, hce, Addr.add_mk], .sl _ _ _ _ _ _ _ _ hφ (by omega) (by omega) (fun q => by cases q)⟩
          · rename_i mx0
            split at h
            · cases h
            · rename_i m hm
              split at h
              · cases h
              · rename_i hi0
                split at h
                · cases h
                · rename_i hh hhe
                  split at h
                  · cases h
                  · rename_i l hle
                    simp only [Option.some.injEq] at h; subst h
                    have hb := fun W => (bounds3_sound (P := P) (len := len) hm (by simp) (by simp) hhe hle hlo hhi hmx hcc W)
                    obtain ⟨_, h1, h2, h3⟩ := hb default
                    by_cases hml : m = l
                    · subst hml
                      exact ⟨.slice (some ⟨k, o, none⟩) (hh - m) (m - m), fun W => by
                        simp [Instr.sliceAt, Instr.slice, run_und hs, hd, (hb W).1, run_size hes], by
                        have e : Nat.beq m m = true := Nat.beq_refl m
                        rw [e]; exact .sl _ _ _ _ _ _ _ _ hφ (by omega) (Nat.le_refl _) (fun q => by cases q)⟩
                    · have e : Nat.beq m l = false := by
                        cases q : Nat.beq m l with
                        | false => rfl
                        | true => exact absurd (Nat.eq_of_beq_eq_true q) hml
                      exact ⟨.slice (some ⟨k, o + l * ie.size, none⟩) (hh - l) (m - l), fun W => by
                        simp [Instr.sliceAt, Instr.slice, run_und hs, hd, (hb W).1, run_size hes, hml, Addr.add_mk], by
                        rw [e]; exact .sl _ _ _ _ _ _ _ _ hφ (by omega) (Nat.le_refl _) (fun q => by cases q)⟩
    · rename_i e n c hd
      split at h
      · cases h
      · rename_i ie hie
        have hes := tiOf_spec hie
        cases hx with
        | ro n c k o c' hr hnc =>
          split at h
          · cases h
          · cases hmx
            split at h
            · cases h
            · rename_i hh hhe
              split at h
              · cases h
              · rename_i l hle
                have hb := fun W => (bounds_sound (P := P) true hhe hle hlo hhi hnc (Nat.le_refl _) W)
                obtain ⟨_, h1, h2⟩ := hb default
                cases hble : Nat.ble hh l with
                | true =>
                  rw [hble] at h; simp only [cond_true, Option.some.injEq] at h; subst h
                  have hble := Nat.le_of_ble_eq_true hble
                  have e0 : hh - l = 0 := by omega
                  by_cases hce : c' = l
                  · subst hce
                    exact ⟨.slice (some ⟨k, o, none⟩) 0 0, fun W => by
                      simp [Instr.sliceAt, Instr.slice, run_und hs, hd, (hb W).1, run_size hes, e0], .ro _ _ _ _ _ (.nil _ _) (Nat.zero_le _)⟩
                  · exact ⟨.slice (some ⟨k, o + l * ie.size, none⟩) 0 (c' - l), fun W => by
                      simp [Instr.sliceAt, Instr.slice, run_und hs, hd, (hb W).1, run_size hes, hce, e0, Addr.add_mk], .ro _ _ _ _ _ (.nil _ _) (Nat.zero_le _)⟩
                | false =>
                  rw [hble] at h; simp only [cond_false, Option.some.injEq] at h; subst h
                  have hble : l < hh := by
                    rcases Nat.lt_or_ge l hh with q | q
                    · exact q
                    · rw [Nat.ble_eq_true_of_le q] at hble; cases hble
                  have hce : ¬ c' = l := by omega
                  exact ⟨.slice (some ⟨k, o + l * ie.size, none⟩) (hh - l) (c' - l), fun W => by
                    simp [Instr.sliceAt, Instr.slice, run_und hs, hd, (hb W).1, run_size hes, hce, Addr.add_mk], .ro _ _ _ _ _ ((hr.drop _).take _) (by omega)⟩
    · rename_i n e b o hd
      split at h
      · cases h
      · rename_i ie hie
        have hes := tiOf_spec hie
        cases hx with
        | ptr b o k rc hφ =>
          split at h
          · cases h
          · cases hmx
            split at h
            · cases h
            · rename_i hh hhe
              split at h
              · cases h
              · rename_i l hle
                have hb := fun W => (bounds_sound (P := P) false hhe hle hlo hhi (Nat.le_refl n) (Nat.le_refl n) W)
                obtain ⟨_, h1, h2⟩ := hb default
                cases hble : Nat.ble n l with
                | true =>
                  rw [hble] at h; simp only [cond_true, Option.some.injEq] at h; subst h
                  have hble := Nat.le_of_ble_eq_true hble
                  have e0 : hh - l = 0 := by omega
                  by_cases hce : n = l
                  · subst hce
                    exact ⟨.slice (some ⟨k, o, none⟩) 0 0, fun W => by
                      simp [Instr.sliceAt, run_und hs, hd, (hb W).1, run_size hes, e0, Instr.sureAddr], .ro _ _ _ _ _ (.nil _ _) (Nat.zero_le _)⟩
                  · exact ⟨.slice (some ⟨k, o + l * ie.size, none⟩) 0 (n - l), fun W => by
                      simp [Instr.sliceAt, run_und hs, hd, (hb W).1, run_size hes, hce, e0, Addr.add_mk, Instr.sureAddr], .ro _ _ _ _ _ (.nil _ _) (Nat.zero_le _)⟩
                | false =>
                  rw [hble] at h; simp only [cond_false, Option.some.injEq] at h; subst h
                  have hble : l < n := by
                    rcases Nat.lt_or_ge l n with q | q
                    · exact q
                    · rw [Nat.ble_eq_true_of_le q] at hble; cases hble
                  have hce : ¬ n = l := by omega
                  exact ⟨.slice (some ⟨k, o + l * ie.size, none⟩) (hh - l) (n - l), fun W => by
                    simp [Instr.sliceAt, run_und hs, hd, (hb W).1, run_size hes, hce, Addr.add_mk, Instr.sureAddr], .sl _ _ _ _ _ _ _ _ hφ (by omega) (Nat.le_refl _) (fun q => by cases q)⟩
    · cases h
end
end Ab
end Go.Proofs.YthhnhbpmpdminaaGreatDoor
