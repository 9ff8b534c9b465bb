/-
words.Op: the number of an operator's word. Conditions: none.
-/
import Derived.Test.YthhnhbpmpdminaaGreatDoorAj
import Derived.Test.YthhnhbpmpdminaaGreatDoorRwdy
namespace Go.Proofs.YthhnhbpmpdminaaGreatDoor
open Go.RowKit Go.Proofs.YthhnhbpmpdminaaGreatDoorW.PrintWords
set_option maxRecDepth 4096

/-- The operators' words. -/
def opTab : List (List UInt8 × Int) := [
  ([110, 111, 116], 3),
  ([97, 110, 100], 4),
  ([111, 114], 5),
  ([120, 111, 114], 6),
  ([61, 62], 7),
  ([61], 8),
  ([105, 116, 101], 9),
  ([100, 105, 115, 116, 105, 110, 99, 116], -1),
  ([98, 118, 110, 111, 116], 10),
  ([98, 118, 110, 101, 103], 11),
  ([98, 118, 97, 110, 100], 12),
  ([98, 118, 111, 114], 13),
  ([98, 118, 120, 111, 114], 14),
  ([98, 118, 110, 97, 110, 100], 15),
  ([98, 118, 110, 111, 114], 16),
  ([98, 118, 120, 110, 111, 114], 17),
  ([98, 118, 97, 100, 100], 18),
  ([98, 118, 115, 117, 98], 19),
  ([98, 118, 109, 117, 108], 20),
  ([98, 118, 117, 100, 105, 118], 21),
  ([98, 118, 117, 114, 101, 109], 22),
  ([98, 118, 115, 100, 105, 118], 23),
  ([98, 118, 115, 114, 101, 109], 24),
  ([98, 118, 115, 109, 111, 100], 25),
  ([98, 118, 115, 104, 108], 26),
  ([98, 118, 108, 115, 104, 114], 27),
  ([98, 118, 97, 115, 104, 114], 28),
  ([98, 118, 117, 108, 116], 29),
  ([98, 118, 117, 108, 101], 30),
  ([98, 118, 117, 103, 116], 31),
  ([98, 118, 117, 103, 101], 32),
  ([98, 118, 115, 108, 116], 33),
  ([98, 118, 115, 108, 101], 34),
  ([98, 118, 115, 103, 116], 35),
  ([98, 118, 115, 103, 101], 36),
  ([98, 118, 99, 111, 109, 112], 37),
  ([99, 111, 110, 99, 97, 116], 38),
  ([101, 120, 116, 114, 97, 99, 116], 39),
  ([122, 101, 114, 111, 95, 101, 120, 116, 101, 110, 100], 40),
  ([115, 105, 103, 110, 95, 101, 120, 116, 101, 110, 100], 41),
  ([114, 111, 116, 97, 116, 101, 95, 108, 101, 102, 116], 42),
  ([114, 111, 116, 97, 116, 101, 95, 114, 105, 103, 104, 116], 43),
  ([114, 101, 112, 101, 97, 116], 44)]
def opV (l : List UInt8) : Int := match opTab.find? (fun p => l == p.1) with
  | some p => p.2
  | none => 0
namespace Ab
noncomputable def SB : St := { P := Tryz.prog, ext := fun _ => none, glob := fun _ => .top }
theorem SB_fit (C : Ctx) : Fit SB C := bare_fit (by kernel_rfl) rfl rfl (by kernel_rfl) C
def tabOk : List (AVal × AVal × Nat) → List (List UInt8 × Int) → Bool
  | [], [] => true
  | (.str k, .int .i64 v, _) :: r, p :: t => k == p.1 && v == p.2 && tabOk r t
  | _, _ => false
theorem table_run : (match acall SB 100 139 [] .empty with
    | some (.map (some b), H) => (match H.get b with
      | some (.map es _) => tabOk es opTab
      | _ => false)
    | _ => false) = true := by kernel_rfl
theorem afind_tab (l : List UInt8) : ∀ (es : List (AVal × AVal × Nat)) (tab : List (List UInt8 × Int)) (i : Nat), tabOk es tab = true →
    ∃ r, afindNow .string (.str l) es i = some r ∧ r.map (·.2) = (tab.find? (fun p => l == p.1)).map (fun p => AVal.int .i64 p.2)
  | [], [], i, _ => ⟨none, rfl, rfl⟩
  | e :: es, p :: tab, i, h => by
    unfold tabOk at h
    split at h
    · cases ‹_ :: _ = []›
    · rename_i k v b r p' t h1 h2
      cases h1; cases h2
      simp only [Bool.and_eq_true, beq_iff_eq] at h
      obtain ⟨⟨rfl, rfl⟩, h3⟩ := h
      have hs : asameNow .string (.str l) (.str p.1) = some (l == p.1) := rfl
      simp only [afindNow, hs, List.find?_cons]
      by_cases e : l = p.1
      · subst e
        simp
      · have e1 : (l == p.1) = false := by simpa using e
        rw [e1]
        exact afind_tab l es tab (i + 1) h3
    · cases h
  | [], _ :: _, _, h => by cases h
  | e :: es, [], _, h => by
    unfold tabOk at h
    split at h
    · cases ‹_ :: _ = []›
    · rename_i h1 h2; cases h2
    · cases h
end Ab
open Ab in
theorem table_any (W : World) : Calls Tryz.prog 139 #[] W fun e W1 => ∃ k, e = .returned (.map (some k)) ∧ Below W.heap.size W W1 ∧
    ∀ s : ByteArray, (Instr.lookup 121 (.map (some k)) (.string s) false).run Tryz.prog W1 = .ok (.int .i64 (opV s.data.toList)) W1 := by
  have h := table_run
  split at h
  · rename_i b H hb
    split at h
    · rename_i es clock hm
      refine (closed_any (SB_fit _) (f := 139) Tryz.func139 rfl (args := []) (args' := #[]) .nil hb).mono fun e W1 ⟨v', C', he, hv, hR, hB⟩ => ?_
      cases hv with
      | map _ k rc hφ =>
        refine ⟨k, he, hB, fun s => ?_⟩
        obtain ⟨r, h1, h2⟩ := afind_tab s.data.toList es opTab 0 h
        have hne : es.isEmpty = false := by
          cases es with
          | nil => cases h
          | cons _ _ => rfl
        have hl : alookup Tryz.prog H 121 (.map (some b)) (.str s.data.toList) false = some (.int .i64 (opV s.data.toList)) := by
          obtain ⟨i, hi, hd⟩ := Option.map_eq_some_iff.1 (show (tiOf Tryz.prog 121).map (·.desc) = some (.map 9 3) by kernel_rfl)
          obtain ⟨j, hj, hjd⟩ := Option.map_eq_some_iff.1 (show (tiOf Tryz.prog 9).map (·.desc) = some .string by kernel_rfl)
          obtain ⟨z, hz, hzz⟩ := Option.map_eq_some_iff.1 (show (tiOf Tryz.prog 3).map (·.zero) = some (.int .i64 0) by kernel_rfl)
          have hf : afind Tryz.prog false 9 (.str s.data.toList) es = some r := by
            unfold afind
            rw [hj]
            simp only [hjd]
            exact h1
          unfold alookup
          simp only [hi, hd, hm, hne, hf]
          unfold opV
          cases hr : r with
          | none =>
            rw [hr] at h2
            cases hq : opTab.find? (fun p => s.data.toList == p.1) with
            | none => simp [hz, hzz]
            | some p => rw [hq] at h2; cases h2
          | some q =>
            rw [hr] at h2
            cases hq : opTab.find? (fun p => s.data.toList == p.1) with
            | none => rw [hq] at h2; cases h2
            | some p =>
              rw [hq] at h2
              simp only [Option.map_some, Option.some.injEq] at h2
              obtain ⟨q1, q2⟩ := q
              simp only at h2
              simp [h2]
        obtain ⟨v, hv1, hv2⟩ := alookup_sound hR hl (.map _ _ _ hφ) (.str s)
        cases hv2
        exact hv1
    · cases h
  · cases h
theorem Op_any (s : ByteArray) (W : World) : Calls Tryz.prog 96 #[.string s] W fun e W' => e = .returned (.int .i64 (opV s.data.toList)) ∧ Below W.heap.size W W' := by
  go_enter Tryz.func96, Tryz.ntmps96
  go_wp2_with fail
  refine (table_any W).mono ?_
  rintro e w1 ⟨k, rfl, hB, hl⟩
  have HB := Aside0.mk hB
  have h1 := hl s
  clear hB hl
  go_wp2_with fail
  go_returns
  exact ⟨rfl, HB.out⟩
end Go.Proofs.YthhnhbpmpdminaaGreatDoor
