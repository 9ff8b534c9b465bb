/-
The law DimacsParse, walked. Conditions: errors.errorType, the powers of ten and bytealg.MaxLen are as they are laid; the text's length is an int.
-/
import Derived.Test.YthhnhbpmpdminaaGreatDoorDkd
import Derived.Test.YthhnhbpmpdminaaGreatDoorTdd
import Derived.Test.YthhnhbpmpdminaaGreatDoorAkd
namespace Go.Proofs.YthhnhbpmpdminaaGreatDoor
open Go.RowKit Go.Proofs.YthhnhbpmpdminaaGreatDoorW.PrintWords PDimacsParse
set_option maxRecDepth 4096

theorem ML.up {w w' : World} (h : ML w) (hb : Below w.heap.size w w') : ML w' := by
  obtain ⟨m, hm⟩ := h
  exact ⟨m, Go.cell_later hb hm⟩
theorem EV.up {w w' : World} (h : EV w) (hb : Below w.heap.size w w') : EV w' := Go.cell_later hb h
/-- What the law sees of what was read. -/
structure Seen (w : World) (l : List (List Int)) (v : Value) : Prop where
  out : ∃ A c, v = .slice A l.length c ∧ l.length ≤ c ∧ Kd.C (Kd.slice 3 (Kd.int .i64)) w A l.length l
theorem Seen.up {w w' : World} {l : List (List Int)} {v : Value} (h : Seen w l v) (hb : Below w.heap.size w w') : Seen w' l v := by
  obtain ⟨A, c, e, hl, hC⟩ := h.out
  exact ⟨A, c, e, hl, Kd.C_below hC hb⟩
theorem lists_any (l : List (List Int)) (u v : Value) (w : World) (h : Seen w l u) (g : Seen w l v) : Calls Tryz.prog 16 #[u, v] w fun e w' => e = .returned (.bool true) ∧ Below w.heap.size w w' := by
  obtain ⟨A, c, rfl, hl, hC⟩ := h.out
  obtain ⟨A', c', rfl, hl', hC'⟩ := g.out
  obtain ⟨h1, h2⟩ := C_lens hC
  obtain ⟨k, hk⟩ := lists_f l h1 h2
  exact (plaithelp_Lists.calls k A c l A' c' l true w hC hl hC' hl' hk).mono fun e w' ⟨he, hd⟩ => ⟨he, hd.below⟩
theorem ref_parse (t : ByteArray) (w : World) : Calls Tryz.prog 14 #[.string t] w fun e w' => ∃ v, e = .returned (.tuple #[v, .int .i64 (outT (parseD t.data.toList)).2.1, .int .i64 (outT (parseD t.data.toList)).2.2.1, .int .i64 (outT (parseD t.data.toList)).2.2.2]) ∧ Seen w' (outT (parseD t.data.toList)).1 v ∧ Below w.heap.size w w' := by
  obtain ⟨K, hK⟩ : ∃ K : Nat, 20000000000 ≤ K := ⟨_, Nat.le_refl _⟩
  refine (plaitref19_Parse.calls K t _ _ _ _ w (parse_f t K hK)).mono ?_
  rintro e w' ⟨v, he, hS, hB⟩
  refine ⟨v, he, ⟨?_⟩, hB⟩
  exact Kd.R_reads (Kd.S_R hS)
/-- What the law needs of what was read: one form for both answers. -/
theorem parse_seen (t : ByteArray) (w : World) (ht : t.size ≤ 9223372036854775807) (hm : ML w) : Calls Tryz.prog 13 #[.string t] w fun e w' => ∃ v er, e = .returned (.tuple #[v, er]) ∧ Seen w' (outT (parseD t.data.toList)).1 v ∧ Below w.heap.size w w' ∧
    ((er = .nilIface ∧ (outT (parseD t.data.toList)).2.2 = (0, 0)) ∨ ∃ k i n, er = .iface 87 (.pointer (some ⟨k, 0, none⟩)) ∧ Cells w' k 176 [.int .i64 ((i : Nat) : Int), .int .i64 ((n : Nat) : Int)] ∧ (outT (parseD t.data.toList)).2.2 = ((i : Int), (n : Int))) := by
  refine (Parse_any t w ht hm).mono fun e w' h => ?_
  cases hR : parseD t.data.toList with
  | bad i n =>
    rw [hR] at h
    obtain ⟨k, rfl, hk, hB⟩ := h
    exact ⟨_, _, rfl, ⟨none, 0, rfl, Nat.le_refl _, Kd.C_nil _ _⟩, hB, .inr ⟨k, i, n, rfl, hk, rfl⟩⟩
  | good st =>
    rw [hR] at h
    obtain ⟨g, vc, vo, hs, rfl, hP, hB⟩ := h
    exact ⟨_, _, rfl, ⟨PI_C hP⟩, hB, .inl ⟨rfl, rfl⟩⟩
theorem told_seen (er : Value) (i n : Int) (w : World) (hE : EV w) (h : (er = .nilIface ∧ (i, n) = ((0 : Int), (0 : Int))) ∨ ∃ (k p q : Nat), er = .iface 87 (.pointer (some ⟨k, 0, none⟩)) ∧ Cells w k 176 [.int .i64 (p : Int), .int .i64 (q : Int)] ∧ (i, n) = ((p : Int), (q : Int))) :
    Calls Tryz.prog 15 #[er] w fun e w' => e = .returned (.tuple #[.int .i64 i, .int .i64 n]) ∧ Below w.heap.size w w' := by
  rcases h with ⟨rfl, h⟩ | ⟨k, p, q, rfl, hk, h⟩
  · cases h
    refine (told_nil w).mono ?_
    rintro e w' ⟨he, rfl⟩
    exact ⟨he, Below.refl _ _⟩
  · cases h
    exact told_err k p q w hk hE
set_option maxHeartbeats 4000000 in
theorem lawDParse (t : ByteArray) (w : World) (ht : t.size ≤ 9223372036854775807) (hE : EV w) (hp : Ab.PW w) (hm : ML w) : Calls Tryz.prog 3 #[.string t] w fun e w' => e = .returned (.bool true) ∧ Below w.heap.size w w' := by
  have HE := Aside0.mk hE
  have HM := Aside0.mk hm
  have HP := Aside0.mk hp
  clear hE hm hp
  go_enter Tryz.func3, Tryz.ntmps3
  go_wp2_with fail
  refine (Ab.known19 HE.out HP.out).mono ?_
  rintro e w1 ⟨rfl, hB⟩
  have HB1 := Aside0.mk hB
  have HE1 := Aside0.mk (HE.out.up hB)
  have HM1 := Aside0.mk (HM.out.up hB)
  clear hB
  obtain ⟨O, hO⟩ : ∃ O, outT (parseD t.data.toList) = O := ⟨_, rfl⟩
  obtain ⟨l, v2, ai, an⟩ := O
  by_cases h8 : 8000 < t.size
  · have h8' : (8000 : Int) < (t.size : Int) := by omega
    by_cases h6 : t.size ≤ 65536
    · have h6' : (t.size : Int) ≤ 65536 := by omega
      go_wp2_with fail
      go_returns
      exact ⟨rfl, HB1.out⟩
    · have h6' : ¬ (t.size : Int) ≤ 65536 := by omega
      go_wp2_with fail
      refine (parse_seen t _ ht HM1.out).mono ?_
      rintro e w2 ⟨vl, er, rfl, hs, hB, her⟩
      rw [hO] at hs her
      have HB2 := Aside0.mk (HB1.out.trans (hB.mono HB1.out.size))
      have HE2 := Aside0.mk (HE1.out.up hB)
      have HS2 := Aside0.mk hs
      have HR2 := Aside0.mk her
      clear hB hs her
      go_wp2_with fail
      refine (ref_parse t _).mono ?_
      rintro e w3 ⟨vm, rfl, hs, hB⟩
      rw [hO] at hs
      rw [hO]
      have HB3 := Aside0.mk (HB2.out.trans (hB.mono HB2.out.size))
      have HE3 := Aside0.mk (HE2.out.up hB)
      have HS3 := Aside0.mk (HS2.out.up hB)
      have HT3 := Aside0.mk hs
      have HR3 : Aside0 ((er = .nilIface ∧ (ai, an) = ((0 : Int), (0 : Int))) ∨ ∃ (k p q : Nat), er = .iface 87 (.pointer (some ⟨k, 0, none⟩)) ∧ Cells w3 k 176 [.int .i64 (p : Int), .int .i64 (q : Int)] ∧ (ai, an) = ((p : Int), (q : Int))) := ⟨by
        rcases HR2.out with h | ⟨k, p, q, h1, h2, h3⟩
        · exact .inl h
        · exact .inr ⟨k, p, q, h1, h2.below hB, h3⟩⟩
      clear hB hs
      simp only []
      go_wp2_with fail
      refine (told_seen er ai an _ HE3.out HR3.out).mono ?_
      rintro e w4 ⟨rfl, hB⟩
      have HB4 := Aside0.mk (HB3.out.trans (hB.mono HB3.out.size))
      have HS4 := Aside0.mk (HS3.out.up hB)
      have HT4 := Aside0.mk (HT3.out.up hB)
      clear hB
      go_wp2_with fail
      refine (lists_any l _ _ _ HS4.out HT4.out).mono ?_
      rintro e w5 ⟨rfl, hB⟩
      have HB5 := Aside0.mk (HB4.out.trans (hB.mono HB4.out.size))
      clear hB
      go_wp2_with fail
      go_returns
      exact ⟨by simp, HB5.out⟩
  · have h8' : ¬ (8000 : Int) < (t.size : Int) := by omega
    go_wp2_with fail
    refine (parse_seen t _ ht HM1.out).mono ?_
    rintro e w2 ⟨vl, er, rfl, hs, hB, her⟩
    rw [hO] at hs her
    have HB2 := Aside0.mk (HB1.out.trans (hB.mono HB1.out.size))
    have HE2 := Aside0.mk (HE1.out.up hB)
    have HS2 := Aside0.mk hs
    have HR2 := Aside0.mk her
    clear hB hs her
    go_wp2_with fail
    refine (ref_parse t _).mono ?_
    rintro e w3 ⟨vm, rfl, hs, hB⟩
    rw [hO] at hs
    rw [hO]
    have HB3 := Aside0.mk (HB2.out.trans (hB.mono HB2.out.size))
    have HE3 := Aside0.mk (HE2.out.up hB)
    have HS3 := Aside0.mk (HS2.out.up hB)
    have HT3 := Aside0.mk hs
    have HR3 : Aside0 ((er = .nilIface ∧ (ai, an) = ((0 : Int), (0 : Int))) ∨ ∃ (k p q : Nat), er = .iface 87 (.pointer (some ⟨k, 0, none⟩)) ∧ Cells w3 k 176 [.int .i64 (p : Int), .int .i64 (q : Int)] ∧ (ai, an) = ((p : Int), (q : Int))) := ⟨by
      rcases HR2.out with h | ⟨k, p, q, h1, h2, h3⟩
      · exact .inl h
      · exact .inr ⟨k, p, q, h1, h2.below hB, h3⟩⟩
    clear hB hs
    simp only []
    go_wp2_with fail
    refine (told_seen er ai an _ HE3.out HR3.out).mono ?_
    rintro e w4 ⟨rfl, hB⟩
    have HB4 := Aside0.mk (HB3.out.trans (hB.mono HB3.out.size))
    have HS4 := Aside0.mk (HS3.out.up hB)
    have HT4 := Aside0.mk (HT3.out.up hB)
    clear hB
    go_wp2_with fail
    refine (lists_any l _ _ _ HS4.out HT4.out).mono ?_
    rintro e w5 ⟨rfl, hB⟩
    have HB5 := Aside0.mk (HB4.out.trans (hB.mono HB4.out.size))
    clear hB
    go_wp2_with fail
    go_returns
    exact ⟨by simp, HB5.out⟩
end Go.Proofs.YthhnhbpmpdminaaGreatDoor
