/-
The reference's Light: where it tells at most its bound, a thing is as light as that. Conditions: the bound, the depth.
-/
import Derived.Test.YthhnhbpmpdminaaGreatDoorSamy
import Derived.IntWalk
namespace Go.Proofs.YthhnhbpmpdminaaGreatDoor
set_option maxRecDepth 4096
open Go.RowKit Go.Proofs.YthhnhbpmpdminaaGreatDoorW.PrintWords Go.Proofs.YthhnhbpmpdminaaGreatDoorW.PrintLast

mutual
def wt : Sx → Nat
  | ⟨w, _, ks⟩ => 1 + w.size / 8 + wtL ks
def wtL : List Sx → Nat
  | [] => 0
  | k :: r => wt k + wtL r
end
theorem wt_eq (x : Sx) : wt x = 1 + x.word.size / 8 + wtL x.kids := by cases x; simp [wt]
theorem wtL_append : ∀ (a b : List Sx), wtL (a ++ b) = wtL a + wtL b
  | [], b => by simp [wtL]
  | k :: r, b => by simp [wtL, wtL_append r b]; omega
theorem wtL_succ (l : List Sx) (i : Nat) (h : i < l.length) : wtL (l.take (i + 1)) = wtL (l.take i) + wt l[i] := by
  rw [List.take_succ_eq_append_getElem h, wtL_append]; simp [wtL]

def LightOut (x : Sx) (most : Int) (e : Ending) : Prop := ∃ n : Int, e = .returned (.int .i64 n) ∧ 1 ≤ n ∧ n ≤ most + 2305843009213693952 ∧ (n ≤ most → (wt x : Int) ≤ n)

set_option maxHeartbeats 1000000 in
theorem light_any : ∀ (n : Nat) (x : Sx), x.dep ≤ n → ∀ (c : List Value) (most deep : Int) (w : World), RT w (fun k => k < w.heap.size) x c → 0 ≤ most → most ≤ 1000000 → 0 ≤ deep → deep ≤ 1000000 →
    Calls Tryz.prog 26 #[.agg c.toArray, .int .i64 most, .int .i64 deep] w fun e w' => LightOut x most e ∧ Below w.heap.size w w' := by
  intro n
  induction n with
  | zero => intro x hx; rw [Sx.dep_eq] at hx; omega
  | succ n ih =>
    intro x hx c most deep w hc hm0 hm1 hd0 hd1
    obtain ⟨A, k, rfl, hk, hm, hws, hR⟩ := RT_cells hc
    have AR := Aside0.mk hR
    have AX := Aside0.mk hx
    clear hc hR hx
    by_cases hz : most ≤ 0
    · go_enter Tryz.func26, Tryz.ntmps26
      go_wp2_with fail
      go_returns
      refine ⟨⟨most + 1, rfl, by omega, by omega, by omega⟩, ((Mod.refl (fun _ => False) w).alloc _).below⟩
    have hz' : 0 < most := by omega
    by_cases hy : deep ≤ 0
    · clear hz
      go_enter Tryz.func26, Tryz.ntmps26
      go_wp2_with fail
      go_returns
      refine ⟨⟨most + 1, rfl, by omega, by omega, by omega⟩, ((Mod.refl (fun _ => False) w).alloc _).below⟩
    have hy' : 0 < deep := by omega
    clear hz hy
    have hb1 : (x.kids.length : Int) ≤ 9223372036854775807 := by omega
    go_enter Tryz.func26, Tryz.ntmps26
    go_wp2_with fail
    have hc0 : Cells (w.alloc (.cells #[.string x.word, .bool x.list, .slice A x.kids.length k] 49)) w.heap.size 49 [.string x.word, .bool x.list, .slice A x.kids.length k] := Cells.new _ _ _
    have hm0' : Mod (fun _ => False) w (w.alloc (.cells #[.string x.word, .bool x.list, .slice A x.kids.length k] 49)) := (Mod.refl _ _).alloc _
    generalize (w.alloc (.cells #[.string x.word, .bool x.list, .slice A x.kids.length k] 49)) = w0 at hc0 hm0' ⊢
    have AC := Aside0.mk hc0
    have AM0 := Aside0.mk hm0'
    clear hc0 hm0'
    go_loopw [7, 8] (fun v7 v wr => ∃ (i : Nat) (m : Int), i ≤ x.kids.length ∧ v = .int .i64 (i : Int) ∧ v7 = .int .i64 m ∧ 1 ≤ m ∧ m ≤ most + 2305843009213693952 ∧ Aside0 (m ≤ most → ((1 + x.word.size / 8 + wtL (x.kids.take i) : Nat) : Int) ≤ m) ∧ Aside0 (Mod (fun _ => False) w0 wr)) (fun _ v _ => x.kids.length - (intOf v).toNat)
    case atStart =>
      refine ⟨0, _, Nat.zero_le _, rfl, rfl, ?_, ?_, ⟨fun _ => ?_⟩, ⟨Mod.refl _ _⟩⟩
      · omega
      · omega
      · simp [wtL]
    case round =>
      obtain ⟨i, m, hi, rfl, rfl, hq1, hq2, hq3, AM⟩ := hrel
      have q2 := (AC.out.keep AM.out (fun h => h)).cell 2 _ rfl
      by_cases hlt : i < x.kids.length
      · have i0 : (0 : Int) ≤ (i : Int) := by omega
        have i1 : (i : Int) < (x.kids.length : Int) := by omega
        by_cases hmm : m ≤ most
        · obtain ⟨a1, B1, d1, rfl, hs1, ht1, -, z11, z12, z13⟩ := RL_kid ((AM0.out.trans AM.out).RL AR.out) i hlt
          have AT := Aside0.mk ht1
          have AE := Aside0.mk (wtL_succ x.kids i hlt)
          have s1 : IntKind.i64.wrap (most - m) = most - m := IntWalk.i64_in _ (by omega)
          have s2 : IntKind.i64.wrap (deep - 1) = deep - 1 := IntWalk.i64_in _ (by omega)
          clear ht1
          go_wp2_with fail
          refine (ih x.kids[i] (by have := AX.out; rw [Sx.dep_eq] at this; have := Sx.depL_mem (List.getElem_mem hlt); omega) [.string x.kids[i].word, .bool x.kids[i].list, .slice B1 x.kids[i].kids.length d1] (most - m) (deep - 1) _ AT.out (by omega) (by omega) (by omega) (by omega)).mono ?_
          rintro e w2 ⟨⟨r, rfl, hr1, hr2, hr3⟩, hb⟩
          have HR3 := Aside0.mk hr3
          have s3 : IntKind.i64.wrap (m + r) = m + r := IntWalk.i64_in _ (by omega)
          clear hr3
          go_wp2_with fail
          go_roundw
          case rel => exact ⟨i + 1, m + r, by omega, by go_num, rfl, by omega, by omega, ⟨fun h => by have := HR3.out (by omega); have := hq3.out (by omega); have := AE.out; omega⟩, ⟨AM.out.step hb⟩⟩
          case measure => simp [intOf]; omega
        · have hmm' : most < m := by omega
          clear hmm
          go_wp2_with fail
          go_returns
          exact ⟨⟨m, rfl, hq1, hq2, fun h => by omega⟩, (AM0.out.trans AM.out).below⟩
      · have i1 : (x.kids.length : Int) ≤ (i : Int) := by omega
        have hall : i = x.kids.length := by omega
        have HW := Aside0.mk (show m ≤ most → (wt x : Int) ≤ m from fun h => by
          have := hq3.out h
          rw [hall, List.take_length] at this
          rw [wt_eq]; exact this)
        clear hall
        go_wp2_with fail
        go_returns
        exact ⟨⟨m, rfl, hq1, hq2, HW.out⟩, (AM0.out.trans AM.out).below⟩
end Go.Proofs.YthhnhbpmpdminaaGreatDoor
