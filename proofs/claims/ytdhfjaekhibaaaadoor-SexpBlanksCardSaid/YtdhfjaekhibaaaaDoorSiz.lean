/-
How many words and lists a thing has: sexp.Size and the reference's. Conditions: their number.
-/
import Derived.Test.YtdhfjaekhibaaaaDoorSam
namespace Go.Proofs.YtdhfjaekhibaaaaDoor
set_option maxRecDepth 4096
open Go.RowKit Go.Proofs.YtdhfjaekhibaaaaDoorW.PrintWords Go.Proofs.YtdhfjaekhibaaaaDoorW.PrintLast

mutual
def sz : Sx → Nat
  | ⟨_, l, ks⟩ => 1 + (if l then szL ks else 0)
def szL : List Sx → Nat
  | [] => 0
  | k :: r => sz k + szL r
end
theorem sz_word {x : Sx} (h : x.list = false) : sz x = 1 := by
  cases x; simp at h; subst h; simp [sz]
theorem sz_list {x : Sx} (h : x.list = true) : sz x = 1 + szL x.kids := by
  cases x; simp at h; subst h; simp [sz]
theorem szL_append : ∀ (a b : List Sx), szL (a ++ b) = szL a + szL b
  | [], b => by simp [szL]
  | k :: r, b => by simp [szL, szL_append r b]; omega
theorem szL_succ (l : List Sx) (i : Nat) (h : i < l.length) : szL (l.take (i + 1)) = szL (l.take i) + sz l[i] := by
  rw [List.take_succ_eq_append_getElem h, szL_append]; simp [szL]
theorem szL_take (l : List Sx) (i : Nat) : szL (l.take i) ≤ szL l := by
  have := szL_append (l.take i) (l.drop i)
  rw [List.take_append_drop] at this
  omega

set_option maxHeartbeats 1000000 in
theorem size_any : ∀ (n : Nat) (x : Sx), x.dep ≤ n → ∀ (c : List Value) (w : World), RT w (fun k => k < w.heap.size) x c → sz x ≤ 1000000000000000000 →
    Calls Tryd.prog 17 #[.agg c.toArray] w fun e w' => e = .returned (.int .i64 (sz x : Int)) ∧ Below w.heap.size w w' := by
  intro n
  induction n with
  | zero => intro x hx; rw [Sx.dep_eq] at hx; omega
  | succ n ih =>
    intro x hx c w hc hsz
    obtain ⟨A, k, rfl, hk, hm, hws, hR⟩ := RT_cells hc
    have AR := Aside0.mk hR
    have AX := Aside0.mk hx
    clear hc hR hx
    cases hl : x.list with
    | false =>
      have hp := Aside0.mk (sz_word hl)
      clear hl
      go_enter Tryd.func17, Tryd.ntmps17
      go_wp2_with fail
      go_returns
      exact ⟨by rw [hp.out]; rfl, ((Mod.refl (fun _ => False) w).alloc _).below⟩
    | true =>
      have hp := Aside0.mk (sz_list hl)
      rw [sz_list hl] at hsz
      clear hl
      go_enter Tryd.func17, Tryd.ntmps17
      go_wp2_with fail
      have hb1 : (x.kids.length : Int) ≤ 9223372036854775807 := by omega
      go_loopw [3, 11] (fun v3 v wr => ∃ i : Nat, i ≤ x.kids.length ∧ v = .int .i64 (i : Int) ∧ v3 = .int .i64 ((1 + szL (x.kids.take i) : Nat) : Int) ∧ Mod (fun _ => False) w wr) (fun _ v _ => x.kids.length - (intOf v).toNat)
      case atStart => exact ⟨0, Nat.zero_le _, rfl, by simp [szL], (Mod.refl _ _).alloc _⟩
      case round =>
        obtain ⟨i, hi, rfl, rfl, hmw⟩ := hrel
        by_cases hlt : i < x.kids.length
        · have i0 : (0 : Int) ≤ (i : Int) := by omega
          have i1 : (i : Int) < (x.kids.length : Int) := by omega
          obtain ⟨a1, B1, d1, rfl, hs1, ht1, -, z11, z12, z13⟩ := RL_kid (hmw.RL AR.out) i hlt
          have e1 := szL_succ x.kids i hlt
          have e2 := szL_take x.kids (i + 1)
          have AT := Aside0.mk ht1
          have AM := Aside0.mk hmw
          have AE := Aside0.mk e1
          have hszk : sz x.kids[i] ≤ 1000000000000000000 := by omega
          clear ht1 hmw e1 e2
          go_wp2_with fail
          refine (ih x.kids[i] (by have := AX.out; rw [Sx.dep_eq] at this; have := Sx.depL_mem (List.getElem_mem hlt); omega) [.string x.kids[i].word, .bool x.kids[i].list, .slice B1 x.kids[i].kids.length d1] _ (((Mod.refl _ wr).alloc _).RT AT.out) hszk).mono ?_
          rintro e w2 ⟨rfl, hb⟩
          go_wp2_with fail
          go_roundw
          case rel => exact ⟨i + 1, by omega, by go_num, by have e1 := AE.out; have e2 := szL_take x.kids (i + 1); exact congrArg (Value.int .i64) ((IntWalk.wrap64_in _ (by omega)).trans (by omega)), (AM.out.alloc _).step hb⟩
          case measure => simp [intOf]; omega
        · have i1 : (x.kids.length : Int) ≤ (i : Int) := by omega
          have hall : i = x.kids.length := by omega
          subst hall
          go_wp2_with fail
          go_returns
          exact ⟨by rw [hp.out, List.take_length]; rfl, hmw.below⟩
set_option maxHeartbeats 1000000 in
theorem rsize_any : ∀ (n : Nat) (x : Sx), x.dep ≤ n → ∀ (c : List Value) (w : World), RT w (fun k => k < w.heap.size) x c → sz x ≤ 1000000000000000000 →
    Calls Tryd.prog 18 #[.agg c.toArray] w fun e w' => e = .returned (.int .i64 (sz x : Int)) ∧ Below w.heap.size w w' := by
  intro n
  induction n with
  | zero => intro x hx; rw [Sx.dep_eq] at hx; omega
  | succ n ih =>
    intro x hx c w hc hsz
    obtain ⟨A, k, rfl, hk, hm, hws, hR⟩ := RT_cells hc
    have AR := Aside0.mk hR
    have AX := Aside0.mk hx
    clear hc hR hx
    cases hl : x.list with
    | false =>
      have hp := Aside0.mk (sz_word hl)
      clear hl
      go_enter Tryd.func18, Tryd.ntmps18
      go_wp2_with fail
      have hc0 : Cells (w.alloc (.cells #[.string x.word, .bool false, .slice A x.kids.length k] 35)) w.heap.size 35 [.string x.word, .bool false, .slice A x.kids.length k] := Cells.new _ _ _
      go_loopw [3, 4] (fun v3 v wr => v = .int .i64 0 ∧ v3 = .int .i64 1 ∧ wr = (w.alloc (.cells #[.string x.word, .bool false, .slice A x.kids.length k] 35))) (fun _ _ _ => 0)
      case atStart => exact ⟨rfl, rfl, rfl⟩
      case round =>
        obtain ⟨rfl, rfl, rfl⟩ := hrel
        go_wp2_with fail
        go_returns
        exact ⟨by rw [hp.out]; rfl, ((Mod.refl (fun _ => False) w).alloc _).below⟩
    | true =>
      have hp := Aside0.mk (sz_list hl)
      rw [sz_list hl] at hsz
      clear hl
      go_enter Tryd.func18, Tryd.ntmps18
      go_wp2_with fail
      have hb1 : (x.kids.length : Int) ≤ 9223372036854775807 := by omega
      have hc0 : Cells (w.alloc (.cells #[.string x.word, .bool true, .slice A x.kids.length k] 35)) w.heap.size 35 [.string x.word, .bool true, .slice A x.kids.length k] := Cells.new _ _ _
      have hm0 : Mod (fun _ => False) w (w.alloc (.cells #[.string x.word, .bool true, .slice A x.kids.length k] 35)) := (Mod.refl _ _).alloc _
      generalize (w.alloc (.cells #[.string x.word, .bool true, .slice A x.kids.length k] 35)) = w0 at hc0 hm0 ⊢
      have AC := Aside0.mk hc0
      have AM0 := Aside0.mk hm0
      clear hc0 hm0
      go_loopw [3, 4] (fun v3 v wr => ∃ i : Nat, i ≤ x.kids.length ∧ v = .int .i64 (i : Int) ∧ v3 = .int .i64 ((1 + szL (x.kids.take i) : Nat) : Int) ∧ Aside0 (Mod (fun _ => False) w0 wr)) (fun _ v _ => x.kids.length - (intOf v).toNat)
      case atStart => exact ⟨0, Nat.zero_le _, rfl, by simp [szL], ⟨Mod.refl _ _⟩⟩
      case round =>
        obtain ⟨i, hi, rfl, rfl, AM⟩ := hrel
        have q1 := (AC.out.keep AM.out (fun h => h)).cell 1 _ rfl
        have q2 := (AC.out.keep AM.out (fun h => h)).cell 2 _ rfl
        by_cases hlt : i < x.kids.length
        · have i0 : (0 : Int) ≤ (i : Int) := by omega
          have i1 : (i : Int) < (x.kids.length : Int) := by omega
          obtain ⟨a1, B1, d1, rfl, hs1, ht1, -, z11, z12, z13⟩ := RL_kid ((AM0.out.trans AM.out).RL AR.out) i hlt
          have e1 := szL_succ x.kids i hlt
          have e2 := szL_take x.kids (i + 1)
          have AT := Aside0.mk ht1
          have AE := Aside0.mk e1
          have hszk : sz x.kids[i] ≤ 1000000000000000000 := by omega
          clear ht1 e1 e2
          go_wp2_with fail
          refine (ih x.kids[i] (by have := AX.out; rw [Sx.dep_eq] at this; have := Sx.depL_mem (List.getElem_mem hlt); omega) [.string x.kids[i].word, .bool x.kids[i].list, .slice B1 x.kids[i].kids.length d1] _ AT.out hszk).mono ?_
          rintro e w2 ⟨rfl, hb⟩
          go_wp2_with fail
          go_roundw
          case rel => exact ⟨i + 1, by omega, by go_num, by have e1 := AE.out; have e2 := szL_take x.kids (i + 1); exact congrArg (Value.int .i64) ((IntWalk.wrap64_in _ (by omega)).trans (by omega)), ⟨AM.out.step hb⟩⟩
          case measure => simp [intOf]; omega
        · have i1 : (x.kids.length : Int) ≤ (i : Int) := by omega
          have hall : i = x.kids.length := by omega
          subst hall
          go_wp2_with fail
          go_returns
          exact ⟨by rw [hp.out, List.take_length]; rfl, (AM0.out.trans AM.out).below⟩
end Go.Proofs.YtdhfjaekhibaaaaDoor
