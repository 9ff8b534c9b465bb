/-
Is it a word: sexp.Word and the reference's. Conditions: how long the text is.
-/
import Derived.Test.YthhnhbpmpdminaaGreatDoorTsy
import Derived.Test.YthhnhbpmpdminaaGreatDoorRfwy
namespace Go.Proofs.YthhnhbpmpdminaaGreatDoor
set_option maxRecDepth 4096
open Go.RowKit Go.Proofs.YthhnhbpmpdminaaGreatDoorW.PrintWords Go.Proofs.YthhnhbpmpdminaaGreatDoorW.PrintLast

def wordB (t : List UInt8) : Bool :=
  if 2 ≤ t.length ∧ t[0]? = some 124 ∧ t[t.length - 1]? = some 124 then scan notBar t 1 == t.length - 1 else !t.isEmpty && scan plainB t 0 == t.length

set_option maxHeartbeats 1000000 in
theorem sword_any (s : ByteArray) (w : World) (hs : s.size ≤ 9223372036854775807) :
    Calls Tryz.prog 95 #[.string s] w fun e w' => e = .returned (.bool (wordB s.data.toList)) ∧ Below w.heap.size w w' := by
  have hl : s.data.toList.length = s.size := by rw [Array.length_toList]; rfl
  by_cases h2 : 2 ≤ s.size
  · have hg0 : s.data.toList[0]? = some s[0] := List.getElem?_eq_some_iff.2 ⟨by omega, rfl⟩
    have hg1 : s.data.toList[s.size - 1]? = some s[s.size - 1] := List.getElem?_eq_some_iff.2 ⟨by omega, rfl⟩
    have i2 : (2 : Int) ≤ (s.size : Int) := by omega
    have i3 : (0 : Int) < (s.size : Int) := by omega
    by_cases h0 : s[0] = 124
    · have e0 : ((s[0].toNat : Int) == 124) = true := by rw [h0]; rfl
      by_cases h1 : s[s.size - 1] = 124
      · have e1 : ((s[s.size - 1].toNat : Int) == 124) = true := by rw [h1]; rfl
        have HV : Aside0 (wordB s.data.toList = (scan notBar s.data.toList 1 == s.size - 1)) := ⟨by
          unfold wordB; rw [hl, if_pos ⟨h2, by rw [hg0, h0], by rw [hg1, h1]⟩]⟩
        clear hg0 hg1 h0 h1
        go_enter Tryz.func95, Tryz.ntmps95
        go_wp2_with fail
        refine (while_any w.heap.size 227 notBar _ wordF_any s 1 [] _ (Cells.new w 227 [.string s, .int .i64 1]) (by omega) hs).mono ?_
        rintro e w1 ⟨rfl, hm, hc⟩
        have c1 := hc.cell 1 _ rfl
        have hbel : Below w.heap.size w w1 := (((Mod.refl (fun _ => False) w).alloc _).below).trans (hm.belowB (fun k hk => by omega) (by simp))
        clear hm hc
        go_wp2_with fail
        go_returns
        refine ⟨?_, hbel⟩
        rw [HV.out]
        exact congrArg (fun b => Ending.returned (.bool b)) (by rw [Bool.eq_iff_iff, beq_iff_eq, beq_iff_eq]; omega)
      · have e1 : ((s[s.size - 1].toNat : Int) == 124) = false := ne_int124 h1
        have hne : ¬ s.toList = [] := by
          rw [Lib.toList_data]; intro e; rw [e] at hl; simp at hl; omega
        have HV : Aside0 (wordB s.data.toList = (scan plainB s.data.toList 0 == s.size)) := ⟨by
          unfold wordB; rw [hl, if_neg (by rintro ⟨_, _, b⟩; rw [hg1] at b; exact h1 (Option.some.inj b))]
          rw [show s.data.toList.isEmpty = false by rw [List.isEmpty_eq_false_iff_exists_mem]; exact ⟨_, List.mem_of_getElem? hg0⟩]; simp⟩
        clear hg0 hg1 h0 h1
        go_enter Tryz.func95, Tryz.ntmps95
        go_wp2_with fail
        refine (while_any w.heap.size 227 plainB _ plain_any s 0 [] _ (Cells.new w 227 [.string s, .int .i64 0]) (by omega) hs).mono ?_
        rintro e w1 ⟨rfl, hm, hc⟩
        have c1 := hc.cell 1 _ rfl
        have hbel : Below w.heap.size w w1 := (((Mod.refl (fun _ => False) w).alloc _).below).trans (hm.belowB (fun k hk => by omega) (by simp))
        clear hm hc
        go_wp2_with fail
        go_returns
        refine ⟨?_, hbel⟩
        rw [HV.out]
        exact congrArg (fun b => Ending.returned (.bool b)) (by rw [List.isEmpty_eq_false_iff.2 hne, Bool.not_false, Bool.true_and, Bool.eq_iff_iff, beq_iff_eq, beq_iff_eq]; omega)
    · have e0 : ((s[0].toNat : Int) == 124) = false := ne_int124 h0
      have hne : ¬ s.toList = [] := by
        rw [Lib.toList_data]; intro e; rw [e] at hl; simp at hl; omega
      have HV : Aside0 (wordB s.data.toList = (scan plainB s.data.toList 0 == s.size)) := ⟨by
        unfold wordB; rw [hl, if_neg (by rintro ⟨_, b, _⟩; rw [hg0] at b; exact h0 (Option.some.inj b))]
        rw [show s.data.toList.isEmpty = false by rw [List.isEmpty_eq_false_iff_exists_mem]; exact ⟨_, List.mem_of_getElem? hg0⟩]; simp⟩
      clear hg0 hg1 h0
      go_enter Tryz.func95, Tryz.ntmps95
      go_wp2_with fail
      refine (while_any w.heap.size 227 plainB _ plain_any s 0 [] _ (Cells.new w 227 [.string s, .int .i64 0]) (by omega) hs).mono ?_
      rintro e w1 ⟨rfl, hm, hc⟩
      have c1 := hc.cell 1 _ rfl
      have hbel : Below w.heap.size w w1 := (((Mod.refl (fun _ => False) w).alloc _).below).trans (hm.belowB (fun k hk => by omega) (by simp))
      clear hm hc
      go_wp2_with fail
      go_returns
      refine ⟨?_, hbel⟩
      rw [HV.out]
      exact congrArg (fun b => Ending.returned (.bool b)) (by rw [List.isEmpty_eq_false_iff.2 hne, Bool.not_false, Bool.true_and, Bool.eq_iff_iff, beq_iff_eq, beq_iff_eq]; omega)
  · have i2 : ¬ (2 : Int) ≤ (s.size : Int) := by omega
    by_cases hz : s.size = 0
    · have hse : s = ⟨#[]⟩ := by apply ByteArray.ext; exact Array.eq_empty_of_size_eq_zero hz
      have HV : Aside0 (wordB s.data.toList = false) := ⟨by rw [hse]; rfl⟩
      have hne : s.toList = [] := by rw [Lib.toList_data, hse]
      clear hse
      go_enter Tryz.func95, Tryz.ntmps95
      go_wp2_with fail
      refine (while_any w.heap.size 227 plainB _ plain_any s 0 [] _ (Cells.new w 227 [.string s, .int .i64 0]) (by omega) hs).mono ?_
      rintro e w1 ⟨rfl, hm, hc⟩
      have c1 := hc.cell 1 _ rfl
      have hbel : Below w.heap.size w w1 := (((Mod.refl (fun _ => False) w).alloc _).below).trans (hm.belowB (fun k hk => by omega) (by simp))
      clear hm hc
      go_wp2_with fail
      go_returns
      exact ⟨by rw [HV.out]; rfl, hbel⟩
    · have hne : ¬ s.toList = [] := by
        rw [Lib.toList_data]; intro e; rw [e] at hl; simp at hl; omega
      have HV : Aside0 (wordB s.data.toList = (scan plainB s.data.toList 0 == s.size)) := ⟨by
        unfold wordB; rw [hl, if_neg (by rintro ⟨a, _, _⟩; omega)]
        rw [show s.data.toList.isEmpty = false by rw [List.isEmpty_eq_false_iff]; intro e; rw [e] at hl; simp at hl; omega]; simp⟩
      go_enter Tryz.func95, Tryz.ntmps95
      go_wp2_with fail
      refine (while_any w.heap.size 227 plainB _ plain_any s 0 [] _ (Cells.new w 227 [.string s, .int .i64 0]) (by omega) hs).mono ?_
      rintro e w1 ⟨rfl, hm, hc⟩
      have c1 := hc.cell 1 _ rfl
      have hbel : Below w.heap.size w w1 := (((Mod.refl (fun _ => False) w).alloc _).below).trans (hm.belowB (fun k hk => by omega) (by simp))
      clear hm hc
      go_wp2_with fail
      go_returns
      refine ⟨?_, hbel⟩
      rw [HV.out]
      exact congrArg (fun b => Ending.returned (.bool b)) (by rw [List.isEmpty_eq_false_iff.2 hne, Bool.not_false, Bool.true_and, Bool.eq_iff_iff, beq_iff_eq, beq_iff_eq]; omega)
end Go.Proofs.YthhnhbpmpdminaaGreatDoor
