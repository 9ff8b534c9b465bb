/-
Several texts as one: Rtm Gbp.
-/
import Derived.Test.YthhnhbpmpdminaaGreatDoorXO
import Derived.Test.YthhnhbpmpdminaaGreatDoorXJ
import Derived.Test.YthhnhbpmpdminaaGreatDoorXF
import Derived.Test.YthhnhbpmpdminaaGreatDoorXH
/-
read.worker: term, of word and list. Conditions: the reader in memory.
-/
namespace Go.Proofs.YthhnhbpmpdminaaGreatDoor
set_option maxRecDepth 4096
set_option maxHeartbeats 8000000
set_option linter.unusedSimpArgs false
set_option linter.unusedVariables false
set_option linter.unnecessarySimpa false
open Go.RowKit Go.Proofs.YthhnhbpmpdminaaGreatDoorW.PrintWords Go.Maps
section
variable (z : Zr) (w : World) (E : List Ent) (vl : Value) (cs : List Value) (defs : Int) (r : Rd)
/-- What word is held to; what list is. -/
def WordC (rec : Tm) (d : Nat) : Prop := ∀ (w : World) (r : Rd) (s : ByteArray) (b : Bnd) (p : Option Addr) (lim : Nat), RI z w E vl cs defs r → z.B ≤ w.heap.size → s.size ≤ maxLen → BL z w b p → BndOk b r.G → lim ≤ E.length → r.n ≤ 65536 →
  Calls Tryz.prog 101 #[.pointer (some ⟨z.wb, 0, none⟩), .string s, plV p lim d] w fun e w' => RPost z w E vl cs defs (wordF E rec s b lim r) e w'
def ListC (rec : Tm) (d : Nat) : Prop := ∀ (w : World) (r : Rd) (l : List Sx) (A : Option Addr) (c : Nat) (b : Bnd) (p : Option Addr) (lim : Nat), RI z w E vl cs defs r → z.B ≤ w.heap.size → RL w (NR z w) l A 0 → l.length ≤ c → c ≤ 9223372036854775807 → BL z w b p → BndOk b r.G → lim ≤ E.length → r.n ≤ 65536 →
  Calls Tryz.prog 102 #[.pointer (some ⟨z.wb, 0, none⟩), .slice A l.length c, plV p lim d] w fun e w' => RPost z w E vl cs defs (listF E rec l b lim r) e w'
theorem RI.count {z : Zr} {w : World} {E : List Ent} {vl : Value} {cs : List Value} {defs : Int} {r : Rd} (h : RI z w E vl cs defs r) :
    KR z w (w.setCell ⟨z.wb, 1, none⟩ (.int .i64 ((r.n : Int) + 1))) ∧ RI z (w.setCell ⟨z.wb, 1, none⟩ (.int .i64 ((r.n : Int) + 1))) E vl cs defs { r with n := r.n + 1 } := by
  have hm : Mod (fun k => k = z.wb) w (w.setCell ⟨z.wb, 1, none⟩ (.int .i64 ((r.n : Int) + 1))) := Mod.setCell (S := fun k => k = z.wb) (Mod.refl _ _) (.inl rfl) _
  have hk : KR z w (w.setCell ⟨z.wb, 1, none⟩ (.int .i64 ((r.n : Int) + 1))) := ⟨Mod.setCell (S := RZ z w) (Mod.refl _ _) (.inl (.inr rfl)) _, fun _ => ⟨fun k _ hn => Below.heap_setCell w ⟨z.wb, 1, none⟩ _ k (fun q => hn (.inr q)), fun _ _ ho => ho.same (Below.heap_setCell w ⟨z.wb, 1, none⟩ _ z.g (fun q => h.ne.1 q.symm))⟩⟩
  obtain ⟨vn, hg⟩ := h.gi
  refine ⟨hk, ⟨vn, hg.keep hm (fun k _ q => ?_)⟩, h.sc.next hk, ?_, h.base, h.dec⟩
  · subst q
    rintro (q | q | q | ⟨_, l, hl⟩)
    · exact h.ne.1 q
    · exact h.ne.2.1 q
    · exact h.ne.2.2 q
    · exact absurd (h.wk.ty hl).1 (by decide)
  · have := h.wk.set 1 (.int .i64 ((r.n : Int) + 1))
    exact this
theorem term_any (k : Nat) (hk : k < 200) (hw : WordC z E vl cs defs (tmF E k) (200 - k)) (hl : ListC z E vl cs defs (tmF E k) (200 - k)) : TermC z E vl cs defs (tmF E (k + 1)) (200 - k) := by
  intro w r x sc b p lim h hB hRT hBL hbo hlim hn
  obtain ⟨A, c, rfl, hc1, hc2, hws, hRL⟩ := RT_cells hRT
  have HI := Aside0.mk h
  have HRT := Aside0.mk hRT
  have HBL := Aside0.mk hBL
  have HBO := Aside0.mk hbo
  have hb2 := ((Below.refl _ w).alloc (Nat.le_refl _) (.cells #[.string x.word, .bool x.list, .slice A x.kids.length c] 49)).alloc (by simp) (.cells #[.pointer p, .int .i64 (lim : Int), .int .i64 ((200 - k : Nat) : Int)] 139)
  have hx := (Cells.new w 49 [.string x.word, .bool x.list, .slice A x.kids.length c]).alloc (.cells #[.pointer p, .int .i64 (lim : Int), .int .i64 ((200 - k : Nat) : Int)] 139)
  have hp : Cells ((w.alloc (.cells #[.string x.word, .bool x.list, .slice A x.kids.length c] 49)).alloc (.cells #[.pointer p, .int .i64 (lim : Int), .int .i64 ((200 - k : Nat) : Int)] 139)) (w.heap.size + 1) 139 [.pointer p, .int .i64 (lim : Int), .int .i64 ((200 - k : Nat) : Int)] := by
    have := Cells.new (w.alloc (.cells #[.string x.word, .bool x.list, .slice A x.kids.length c] 49)) 139 [.pointer p, .int .i64 (lim : Int), .int .i64 ((200 - k : Nat) : Int)]
    simpa using this
  have hd : ¬ (200 : Int) < ((200 - k : Nat) : Int) := by omega
  have hw1 : wrap64 ((r.n : Int) + 1) = (r.n : Int) + 1 := by unfold wrap64; omega
  unfold plV
  generalize hD : 200 - k = D at hd hw hl hb2 hx hp ⊢
  have HWC := Aside0.mk hw
  have HLC := Aside0.mk hl
  have HRL := Aside0.mk hRL
  clear hw hl hRT hBL hbo hRL
  obtain ⟨R, hR⟩ : ∃ R, tmF E (k + 1) x b lim r = R := ⟨_, rfl⟩
  rw [hR]
  have HR := Aside0.mk hR
  clear hR
  go_enter Tryz.func75, Tryz.ntmps75
  go_upto_region 1 with (fail)
  obtain ⟨w2, hw2⟩ : ∃ w2, (w.alloc (.cells #[.string x.word, .bool x.list, .slice A x.kids.length c] 49)).alloc (.cells #[.pointer p, .int .i64 (lim : Int), .int .i64 (D : Int)] 139) = w2 := ⟨_, rfl⟩
  rw [hw2] at hb2 hx hp ⊢
  clear hw2
  have HI2 := Aside0.mk (h.below hb2)
  have HB2 := Aside0.mk hb2
  have HX := Aside0.mk hx
  have HP := Aside0.mk hp
  have e1 := HI2.out.wk.cell 1 _ rfl
  have g1 := HI2.out.wk.frozen 1
  have p0 := hp.cell 0 _ rfl
  have p1 := hp.cell 1 _ rfl
  have p2 := hp.cell 2 _ rfl
  clear h hb2 hx hp
  go_upto_region 4 with (fail)
  obtain ⟨hk3, hi3⟩ := HI2.out.count
  have hx3 := HX.out.far (p := ⟨z.wb, 1, none⟩) (fun q => by have := HI.out.wk.lt; dsimp only at q; omega) (.int .i64 ((r.n : Int) + 1))
  have hp3 := HP.out.far (p := ⟨z.wb, 1, none⟩) (fun q => by have := HI.out.wk.lt; dsimp only at q; omega) (.int .i64 ((r.n : Int) + 1))
  have hb3 : Below z.B w (w2.setCell ⟨z.wb, 1, none⟩ (.int .i64 ((r.n : Int) + 1))) := (HB2.out.mono hB).setCell HI.out.base _
  obtain ⟨w3, hw3⟩ : ∃ w3, w2.setCell ⟨z.wb, 1, none⟩ (.int .i64 ((r.n : Int) + 1)) = w3 := ⟨_, rfl⟩
  rw [hw3] at hk3 hi3 hx3 hp3 hb3 ⊢
  clear hw3
  have HI3 := Aside0.mk hi3
  have HK3 := Aside0.mk ((KR.of_below HB2.out).trans hk3)
  have HB3 := Aside0.mk hb3
  have e3 : w3.cell? ⟨z.wb, 1, none⟩ = some (.int .i64 ((r.n : Int) + 1)) := hi3.wk.cell 1 _ rfl
  have x0 := hx3.cell 0 _ rfl
  have x1 := hx3.cell 1 _ rfl
  have x2 := hx3.cell 2 _ rfl
  have q0 := hp3.cell 0 _ rfl
  have q1 := hp3.cell 1 _ rfl
  have q2 := hp3.cell 2 _ rfl
  clear hk3 hi3 hx3 hp3 hb3 e1 g1 p0 p1 p2
  have hz3 : z.B ≤ w3.heap.size := Nat.le_trans hB HK3.out.size
  by_cases hm : 65536 ≤ r.n
  · have hm' : (65536 : Int) < (r.n : Int) + 1 := by omega
    go_wp2_with fail
    go_returns
    have h9 := HR.out
    unfold tmF at h9
    rw [if_pos hm] at h9
    rw [← h9]
    exact ⟨rfl, HI3.out, HK3.out, HB3.out⟩
  · have hm' : ¬ (65536 : Int) < (r.n : Int) + 1 := by omega
    by_cases hl : x.list = false
    · rw [hl] at x1
      go_wp2_with fail
      have h9 := HR.out
      unfold tmF at h9
      rw [if_neg hm, if_pos hl] at h9
      have hc := HWC.out w3 { r with n := r.n + 1 } x.word b p lim HI3.out hz3 hws (BL.next HK3.out HBL.out) HBO.out hlim (by dsimp only; omega)
      unfold plV at hc
      rw [h9] at hc
      refine hc.mono ?_
      rintro e w4 ⟨rfl, g1, g2, g3⟩
      have G1 := Aside0.mk g1
      have G2 := Aside0.mk (HK3.out.trans g2)
      have G3 := Aside0.mk (HB3.out.trans g3)
      clear g1 g2 g3 hc h9
      go_wp2_with fail
      go_returns
      exact ⟨rfl, G1.out, G2.out, G3.out⟩
    · have hl2 : x.list = true := by simpa using hl
      rw [hl2] at x1
      go_wp2_with fail
      have h9 := HR.out
      unfold tmF at h9
      rw [if_neg hm, if_neg hl] at h9
      have hc := HLC.out w3 { r with n := r.n + 1 } x.kids A c b p lim HI3.out hz3 (NR.trees HK3.out HRL.out) hc1 hc2 (BL.next HK3.out HBL.out) HBO.out hlim (by dsimp only; omega)
      unfold plV at hc
      rw [h9] at hc
      refine hc.mono ?_
      rintro e w4 ⟨rfl, g1, g2, g3⟩
      have G1 := Aside0.mk g1
      have G2 := Aside0.mk (HK3.out.trans g2)
      have G3 := Aside0.mk (HB3.out.trans g3)
      clear g1 g2 g3 hc h9
      go_wp2_with fail
      go_returns
      exact ⟨rfl, G1.out, G2.out, G3.out⟩
end
end Go.Proofs.YthhnhbpmpdminaaGreatDoor
/-
bv: digits, Parse. Conditions: a string in memory.
-/
namespace Go.Proofs.YthhnhbpmpdminaaGreatDoor
set_option maxRecDepth 4096
set_option maxHeartbeats 8000000
set_option linter.unusedSimpArgs false
set_option linter.unusedVariables false
set_option linter.unnecessarySimpa false
open Go.RowKit Go.Proofs.YthhnhbpmpdminaaGreatDoorW.PrintWords Go.Proofs.YthhnhbpmpdminaaGreatDoorW.PrintMore PReadTwice
theorem left_f (k : Nat) (hk : k = 1 ∨ k = 4) (n : Nat) (hn : n < 2 ^ 128) : bv_number_left.f (nlo n) (nhi n) (k : Int) = some (nlo (n * 2 ^ k % 2 ^ 128), nhi (n * 2 ^ k % 2 ^ 128)) := by
  have ha : n % 18446744073709551616 < 18446744073709551616 := Nat.mod_lt _ (by decide)
  have hb : n / 18446744073709551616 < 18446744073709551616 := Nat.div_lt_of_lt_mul (by rw [show 18446744073709551616 * 18446744073709551616 = 2 ^ 128 by decide]; exact hn)
  have hn2 : n = n / 18446744073709551616 * 18446744073709551616 + n % 18446744073709551616 := by omega
  rw [show (2 : Nat) ^ 128 = 340282366920938463463374607431768211456 by decide]
  unfold nlo nhi
  generalize n % 18446744073709551616 = a at *
  generalize n / 18446744073709551616 = b at *
  subst hn2
  rcases hk with rfl | rfl
  · have s1 : ∀ x : Nat, shl .u64 (x : Int) 1 = ((x * 2 % 18446744073709551616 : Nat) : Int) := fun x => by
      unfold shl; rw [IntKind.wrap_u64]; simp [IntKind.bits]
    have s2 : shr .u64 (a : Int) 63 = ((a / 9223372036854775808 : Nat) : Int) := by unfold shr; simp [IntKind.bits]
    have w1 : IntKind.u64.wrap ((1 : Nat) : Int) = 1 := by kernel_rfl
    have w2 : IntKind.u64.wrap (wrap64 (64 - ((1 : Nat) : Int))) = 63 := by kernel_rfl
    have hj : (b * 2 % 18446744073709551616) ||| (a / 9223372036854775808) = b * 2 % 18446744073709551616 + a / 9223372036854775808 := nat_join 1 _ _ (by omega) (by omega)
    unfold bv_number_left.f
    rw [w1, w2, if_neg (by omega), if_pos (by omega), if_pos (by omega), s1, s1, s2, bits_or_u64_nat _ _ (by omega) (by omega), hj]
    congr 2 <;> (congr 1; omega)
  · have s1 : ∀ x : Nat, shl .u64 (x : Int) 4 = ((x * 16 % 18446744073709551616 : Nat) : Int) := fun x => by
      unfold shl; rw [IntKind.wrap_u64]; simp [IntKind.bits]
    have s2 : shr .u64 (a : Int) 60 = ((a / 1152921504606846976 : Nat) : Int) := by unfold shr; simp [IntKind.bits]
    have w1 : IntKind.u64.wrap ((4 : Nat) : Int) = 4 := by kernel_rfl
    have w2 : IntKind.u64.wrap (wrap64 (64 - ((4 : Nat) : Int))) = 60 := by kernel_rfl
    have hj : (b * 16 % 18446744073709551616) ||| (a / 1152921504606846976) = b * 16 % 18446744073709551616 + a / 1152921504606846976 := nat_join 4 _ _ (by omega) (by omega)
    unfold bv_number_left.f
    rw [w1, w2, if_neg (by omega), if_pos (by omega), if_pos (by omega), s1, s1, s2, bits_or_u64_nat _ _ (by omega) (by omega), hj]
    congr 2 <;> (congr 1; omega)
theorem left_any (k : Nat) (hk : k = 1 ∨ k = 4) (n : Nat) (hn : n < 2 ^ 128) (W : World) : Calls Tryz.prog 240 #[numV2 n, .int .i64 (k : Int)] W fun e W' => e = .returned (numV2 (n * 2 ^ k % 2 ^ 128)) ∧ Below W.heap.size W W' :=
  bv_number_left.calls _ _ _ _ _ _ (left_f k hk n hn)
/-- A digit's value as the program reckons it. -/
def dI (b : UInt8) : Int := if 65 ≤ b.toNat ∧ b.toNat ≤ 70 then (b.toNat : Int) - 55 else Lib.indexByte [48, 49, 50, 51, 52, 53, 54, 55, 56, 57, 97, 98, 99, 100, 101, 102] b
theorem hexV_eq (b : UInt8) : hexV b = if 0 ≤ dI b then some (dI b).toNat else none := by
  have key : ∀ n : Nat, n < 256 → hexV (UInt8.ofNat n) = if 0 ≤ dI (UInt8.ofNat n) then some (dI (UInt8.ofNat n)).toNat else none := of_decide_eq_true (by kernel_rfl)
  have := key b.toNat (UInt8.toNat_lt b)
  rwa [UInt8.ofNat_toNat] at this
theorem dI_lt (b : UInt8) : -1 ≤ dI b ∧ dI b < 16 := by
  have key : ∀ n : Nat, n < 256 → -1 ≤ dI (UInt8.ofNat n) ∧ dI (UInt8.ofNat n) < 16 := of_decide_eq_true (by kernel_rfl)
  have := key b.toNat (UInt8.toNat_lt b)
  rwa [UInt8.ofNat_toNat] at this
theorem digF_lt (k : Nat) : ∀ (l : List UInt8) (acc n : Nat), digF k acc l = some n → n < (acc + 1) * 2 ^ (k * l.length)
  | [], acc, n, h => by cases h; simp
  | b :: r, acc, n, h => by
    unfold digF at h
    cases hd : hexV b with
    | none => rw [hd] at h; cases h
    | some d =>
      rw [hd] at h
      simp only at h
      split at h
      · rename_i hlt
        have := digF_lt k r _ _ h
        have h2 : acc * 2 ^ k + d + 1 ≤ (acc + 1) * 2 ^ k := by rw [Nat.add_mul]; omega
        have h3 := Nat.mul_le_mul_right (2 ^ (k * r.length)) h2
        rw [List.length_cons, Nat.mul_succ, Nat.pow_add, Nat.mul_comm (2 ^ (k * r.length)), ← Nat.mul_assoc]
        omega
      · cases h
theorem or_dig (k : Nat) (hk : k = 1 ∨ k = 4) (A d : Nat) (hA : A % 2 ^ k = 0) (hd : d < 2 ^ k) : bits .or .u64 (nlo A) (d : Int) = nlo (A + d) ∧ nhi (A + d) = nhi A := by
  unfold nlo nhi
  have h64 : (2 : Nat) ^ k ≤ 16 := by rcases hk with rfl | rfl <;> decide
  have hm : A % 18446744073709551616 % 2 ^ k = 0 := by
    rcases hk with rfl | rfl
    · rw [show (2 : Nat) ^ 1 = 2 from rfl] at *; omega
    · rw [show (2 : Nat) ^ 4 = 16 from rfl] at *; omega
  rw [bits_or_u64_nat _ _ (Nat.mod_lt _ (by decide)) (by omega), nat_join k _ _ hm hd]
  rcases hk with rfl | rfl
  · rw [show (2 : Nat) ^ 1 = 2 from rfl] at *; omega
  · rw [show (2 : Nat) ^ 4 = 16 from rfl] at *; omega
def digR : Option Bt → Value
  | none => .tuple #[.agg #[.int .i64 0, .int .u64 0, .int .u64 0], .bool false]
  | some v => .tuple #[bitsV v.w v.n, .bool true]
theorem digits_any (k : Nat) (hk : k = 1 ∨ k = 4) (s : ByteArray) (hs : s.size ≤ 9223372036854775807) (W : World) :
    Calls Tryz.prog 198 #[.string s, .int .i64 (k : Int)] W fun e W' => e = .returned (digR (digitsV k s.data.toList)) ∧ Below W.heap.size W W' := by
  have hl : s.data.toList.length = s.size := by rw [Array.length_toList]; rfl
  obtain ⟨R, hR⟩ : ∃ R, digitsV k s.data.toList = R := ⟨_, rfl⟩
  rw [hR]
  have hdk : (128 : Int).tdiv (k : Int) = ((128 / k : Nat) : Int) := by rcases hk with rfl | rfl <;> rfl
  have hk0 : ¬ ((k : Int) = 0) := by omega
  have hc := Cells.new W 110 [.int .i64 0, .int .u64 0, .int .u64 0]
  have hb := (Below.refl _ W).alloc (Nat.le_refl _) (.cells #[.int .i64 0, .int .u64 0, .int .u64 0] 110)
  have HC := Aside0.mk hc
  have HB := Aside0.mk hb
  have HL := Aside0.mk hl
  have HK := Aside0.mk hk
  clear hc hb
  obtain ⟨q, hq⟩ : ∃ n, 128 / k = n := ⟨_, rfl⟩
  rw [hq] at hdk
  have hq8 : q ≤ 128 := by rw [← hq]; exact Nat.div_le_self _ _
  have hwq : wrap64 (q : Int) = (q : Int) := by unfold wrap64; omega
  by_cases h0 : s.data.toList = []
  · have HR : Aside0 (none = R) := ⟨by rw [← hR]; unfold digitsV; rw [if_pos (.inl h0)]⟩
    have hE : s.toList = [] := by rw [ByteArray.toList_eq]; exact h0
    clear hR h0 hl hk
    go_enter Tryz.func198, Tryz.ntmps198
    go_wp2_with fail
    exact bodyPost_ret (results_cell_tmp rfl _ _ W.heap.size 110 #[.int .i64 0, .int .u64 0, .int .u64 0] (0, 0) _ (.bool false) rfl rfl HC.out Tryz.underlying110 rfl (by kernel_rfl)) rfl ⟨by rw [← HR.out]; rfl, HB.out⟩
  · have hE : ¬ s.toList = [] := by rw [ByteArray.toList_eq]; exact h0
    have hE2 : s.toList.isEmpty = false := by simpa using hE
    by_cases h1 : q < s.size
    · have HR : Aside0 (none = R) := ⟨by rw [← hR]; unfold digitsV; rw [if_pos (.inr (by rw [hq, hl]; exact h1))]⟩
      have h2 : (q : Int) < (s.size : Int) := by omega
      clear hR h0 hl hk h1 hq
      go_enter Tryz.func198, Tryz.ntmps198
      go_wp2_with fail
      exact bodyPost_ret (results_cell_tmp rfl _ _ W.heap.size 110 #[.int .i64 0, .int .u64 0, .int .u64 0] (0, 0) _ (.bool false) rfl rfl HC.out Tryz.underlying110 rfl (by kernel_rfl)) rfl ⟨by rw [← HR.out]; rfl, HB.out⟩
    · have HR : Aside0 ((digF k 0 s.data.toList).map (fun n => (⟨k * s.size, n⟩ : Bt)) = R) := ⟨by rw [← hR]; unfold digitsV; rw [if_neg (by rw [hq, hl]; exact fun z => z.elim h0 h1), hl]⟩
      have hks : k * s.size ≤ 128 := by rcases hk with rfl | rfl <;> (simp at hq; omega)
      have h2 : ¬ (q : Int) < (s.size : Int) := by omega
      have hsz : s.size ≤ 128 := by omega
      clear hR hl hk h1 hq
      obtain ⟨O, hO⟩ : ∃ O, digF k 0 s.data.toList = O := ⟨_, rfl⟩
      rw [hO] at HR
      have HO := Aside0.mk hO
      clear hO
      have hc6 := Cells.new (W.alloc (.cells #[.int .i64 0, .int .u64 0, .int .u64 0] 110)) 285 [.int .u64 0, .int .u64 0]
      have hc4 := HC.out.alloc (.cells #[.int .u64 0, .int .u64 0] 285)
      have hb6 := HB.out.alloc HB.out.size (.cells #[.int .u64 0, .int .u64 0] 285)
      go_enter Tryz.func198, Tryz.ntmps198
      go_upto_region 4 with (fail)
      obtain ⟨w0, hw0⟩ : ∃ w0, (W.alloc (.cells #[.int .i64 0, .int .u64 0, .int .u64 0] 110)).alloc (.cells #[.int .u64 0, .int .u64 0] 285) = w0 := ⟨_, rfl⟩
      have hc6 : Cells w0 (W.heap.size + 1) 285 [.int .u64 0, .int .u64 0] := by rw [← hw0]; simpa using hc6
      rw [hw0] at hc4 hb6 ⊢
      have HC6 := Aside0.mk hc6
      have HC4 := Aside0.mk hc4
      have HB6 := Aside0.mk hb6
      clear hw0 hc6 hc4 hb6
      go_wp2_with fail
      go_loopw [7, 8, 21] (fun v7 v8 v21 wr => ∃ (i acc : Nat), i ≤ s.size ∧ v21 = .int .i64 (i : Int) ∧ Aside0 (acc < 2 ^ (k * i)) ∧ Aside0 (digF k acc (s.data.toList.drop i) = O) ∧ Aside0 (Cells wr (W.heap.size + 1) 285 [.int .u64 (nlo acc), .int .u64 (nhi acc)]) ∧ Aside0 (Cells wr W.heap.size 110 [.int .i64 0, .int .u64 0, .int .u64 0]) ∧ Aside0 (Below W.heap.size W wr)) (fun _ _ v21 _ => s.size - (intOf v21).toNat)
      case atStart => exact ⟨0, 0, by omega, rfl, ⟨by simp⟩, HO, HC6, HC4, HB6⟩
      case round =>
        obtain ⟨i, acc, hi, rfl, HA, HD, HN, HZ, HBW⟩ := hrel
        by_cases hlt : i < s.size
        · have hlt' : (i : Int) < (s.size : Int) := by omega
          obtain ⟨b, hbv⟩ : ∃ b, s[i]'hlt = b := ⟨_, rfl⟩
          have hget : s.data.toList[i]? = some b := List.getElem?_eq_some_iff.2 ⟨by rw [HL.out]; exact hlt, by rw [← hbv]; rfl⟩
          obtain ⟨hg1, hg2⟩ := List.getElem?_eq_some_iff.1 hget
          obtain ⟨cn, hcn⟩ : ∃ n, b.toNat = n := ⟨_, rfl⟩
          have hcn2 : (s[i]'hlt).toNat = cn := by rw [hbv]; exact hcn
          have hcl : cn < 256 := by rw [← hcn]; exact b.toNat_lt
          obtain ⟨d, hd⟩ : ∃ d, dI b = d := ⟨_, rfl⟩
          have hdb : -1 ≤ d ∧ d < 16 := by rw [← hd]; exact dI_lt b
          have hS := HD.out
          rw [List.drop_eq_getElem_cons hg1, hg2, digF, hexV_eq, hd] at hS
          have HS := Aside0.mk hS
          have HX : Aside0 (if 65 ≤ cn ∧ cn ≤ 70 then d = (cn : Int) - 55 else d = Lib.indexByte [48, 49, 50, 51, 52, 53, 54, 55, 56, 57, 97, 98, 99, 100, 101, 102] b) := ⟨by
            rw [← hd]; unfold dI; rw [hcn]; split <;> rfl⟩
          have HBB : Aside0 (((cn : Int)).toNat.toUInt8 = b) := ⟨by rw [← hcn]; exact UInt8.ofNat_toNat⟩
          clear hS hd hbv hget hg1 hg2 hcn
          go_wp2_with fail
          refine (IndexByte_any _ _ wr).mono ?_
          rintro e w1 ⟨rfl, rfl⟩
          rw [HBB.out]
          have HX2 : Aside0 (65 ≤ cn ∧ cn ≤ 70 ∧ d = (cn : Int) - 55 ∨ (cn < 65 ∨ 70 < cn) ∧ d = Lib.indexByte [48, 49, 50, 51, 52, 53, 54, 55, 56, 57, 97, 98, 99, 100, 101, 102] b) := ⟨by
            have := HX.out
            split at this <;> omega⟩
          obtain ⟨ix, hix⟩ : ∃ v, Lib.indexByte [48, 49, 50, 51, 52, 53, 54, 55, 56, 57, 97, 98, 99, 100, 101, 102] b = v := ⟨_, rfl⟩
          rw [hix] at HX2
          have hix2 : Lib.indexByte ({ data := #[48, 49, 50, 51, 52, 53, 54, 55, 56, 57, 97, 98, 99, 100, 101, 102] } : ByteArray).data.toList b = ix := hix
          rw [hix2]
          clear hix hix2 HX
          have k1 : IntKind.u64.wrap (k : Int) = (k : Int) := by rw [IntKind.wrap_u64]; rcases HK.out with rfl | rfl <;> rfl
          obtain ⟨m, hm, hm2⟩ : ∃ m : Nat, wrap64 ((2 : Int) ^ k) = (m : Int) ∧ m = 2 ^ k := ⟨2 ^ k, by rcases HK.out with rfl | rfl <;> kernel_rfl, rfl⟩
          have hk64 : (k : Int) ≤ 64 := by rcases HK.out with rfl | rfl <;> decide
          have HM2 := Aside0.mk hm2
          clear hm2
          have z0 := HZ.out.cell 0 _ rfl
          have z1 := HZ.out.cell 1 _ rfl
          have z2 := HZ.out.cell 2 _ rfl
          have f0 := HZ.out.frozen 0
          have f1 := HZ.out.frozen 1
          have f2 := HZ.out.frozen 2
          have HF := Aside0.mk (((HZ.out.set 0 (.int .i64 0)).set 1 (.int .u64 0)).set 2 (.int .u64 0))
          have HB3 := Aside0.mk (((HBW.out.setCell (p := ⟨W.heap.size, 0, none⟩) (Nat.le_refl _) (.int .i64 0)).setCell (p := ⟨W.heap.size, 1, none⟩) (Nat.le_refl _) (.int .u64 0)).setCell (p := ⟨W.heap.size, 2, none⟩) (Nat.le_refl _) (.int .u64 0))
          rcases HX2.out with ⟨q1, q2, q3⟩ | ⟨q1, q3⟩
          have p1 : (65 : Int) ≤ (cn : Int) := by omega
          have p2 : (cn : Int) ≤ 70 := by omega
          have p3 : IntKind.u8.wrap ((cn : Int) - 65) = (cn : Int) - 65 := by rw [IntKind.wrap_u8']; omega
          have p4 : (cn : Int) - 65 + 10 = d := by omega
          clear q1 q2 q3 HX2
          rotate_left
          rw [← q3]
          clear HX2 q3
          go_upto_region 10 with (fail)
          all_goals (
            by_cases hd0 : d < 0
            · first
              | (exfalso; omega)
              | (have HN : Aside0 (none = O) := ⟨by have := HS.out; rwa [if_neg (by omega)] at this⟩
                 have HRR : Aside0 (none = R) := ⟨by have := HR.out; rw [← HN.out] at this; exact this⟩
                 go_wp2_with fail
                 exact bodyPost_ret (results_cell_tmp rfl _ _ W.heap.size 110 #[.int .i64 0, .int .u64 0, .int .u64 0] (0, 0) _ (.bool false) rfl rfl HF.out Tryz.underlying110 rfl (by kernel_rfl)) rfl ⟨by rw [← HRR.out]; rfl, HB3.out⟩)
            · obtain ⟨dn, rfl⟩ := Int.eq_ofNat_of_zero_le (show 0 ≤ d by omega)
              by_cases hdm : dn < m
              · have hdd : dn < 2 ^ k := by rw [← HM2.out]; omega
                have hS3 : digF k (acc * 2 ^ k + dn) (s.data.toList.drop (i + 1)) = O := by
                  have := HS.out
                  rw [if_pos (by omega)] at this
                  dsimp only at this
                  rwa [if_pos (by simpa using hdd), Int.toNat_natCast] at this
                have hp2 : acc * 2 ^ k + dn < 2 ^ (k * (i + 1)) := by
                  have h1 : (acc + 1) * 2 ^ k ≤ 2 ^ (k * i) * 2 ^ k := Nat.mul_le_mul_right _ HA.out
                  rw [Nat.mul_succ, Nat.pow_add]
                  rw [Nat.add_mul] at h1
                  omega
                have h128 : (2 : Nat) ^ (k * (i + 1)) ≤ 2 ^ 128 := Nat.pow_le_pow_right (by decide) (Nat.le_trans (Nat.mul_le_mul_left k hlt) hks)
                have hacc : acc < 2 ^ 128 := Nat.lt_of_le_of_lt (Nat.le_trans (Nat.le_mul_of_pos_right _ (Nat.two_pow_pos k)) (Nat.le_add_right _ dn)) (Nat.lt_of_lt_of_le hp2 h128)
                obtain ⟨o1, o2⟩ := or_dig k HK.out (acc * 2 ^ k) dn (Nat.mul_mod_left _ _) hdd
                have hL := left_any k HK.out acc hacc w1
                rw [Nat.mod_eq_of_lt (by omega)] at hL
                unfold numV2 at hL
                have n0 := HN.out.cell 0 _ rfl
                have n1 := HN.out.cell 1 _ rfl
                obtain ⟨A, hA⟩ : ∃ A, acc * 2 ^ k = A := ⟨_, rfl⟩
                rw [hA] at hS3 hp2 o1 o2 hL
                obtain ⟨a0, ha0⟩ : ∃ v, nlo A = v := ⟨_, rfl⟩
                obtain ⟨b0, hb0⟩ : ∃ v, nhi A = v := ⟨_, rfl⟩
                obtain ⟨a1, ha1⟩ : ∃ v, nlo (A + dn) = v := ⟨_, rfl⟩
                rw [ha0] at o1 hL
                rw [ha1] at o1
                rw [hb0] at o2 hL
                have HL2 := Aside0.mk hL
                have HS3 := Aside0.mk hS3
                have HP2 := Aside0.mk hp2
                have HO2 := Aside0.mk o2
                have HA1 := Aside0.mk ha1
                have hdu : IntKind.u64.wrap (dn : Int) = (dn : Int) := by rw [IntKind.wrap_u64]; omega
                have hdm2 : ¬ (m : Int) ≤ (dn : Int) := by omega
                clear hdd hS3 hp2 h128 hacc hL o2 hA ha0 hb0 ha1 hd0 z0 z1 z2 f0 f1 f2
                go_wp2_with fail
                refine HL2.out.mono ?_
                rintro e w2 ⟨rfl, hB2⟩
                have HB2 := Aside0.mk (HBW.out.trans (hB2.mono HBW.out.size))
                have HZ2 := Aside0.mk (HZ.out.below hB2)
                have HN2 := Aside0.mk (HN.out.below hB2)
                clear hB2 n0 n1
                have n0 := HN2.out.cell 0 _ rfl
                have n1 := HN2.out.cell 1 _ rfl
                have f0 := HN2.out.frozen 0
                have f1 := HN2.out.frozen 1
                go_wp2_with fail
                refine ⟨⟨i + 1, A + dn, by omega, by simp, HP2, HS3, ⟨?_⟩, ⟨?_⟩, ⟨?_⟩⟩, by simp only [intOf]; omega⟩
                · rw [HA1.out, HO2.out]
                  exact ((HN2.out.set 0 (.int .u64 a0)).set 1 (.int .u64 b0)).set 0 (.int .u64 a1)
                · exact ((HZ2.out.far (p := ⟨W.heap.size + 1, 0, none⟩) (by simp) _).far (p := ⟨W.heap.size + 1, 1, none⟩) (by simp) _).far (p := ⟨W.heap.size + 1, 0, none⟩) (by simp) _
                · exact ((HB2.out.setCell (p := ⟨W.heap.size + 1, 0, none⟩) (by simp) _).setCell (p := ⟨W.heap.size + 1, 1, none⟩) (by simp) _).setCell (p := ⟨W.heap.size + 1, 0, none⟩) (by simp) _
              · have HN : Aside0 (none = O) := ⟨by
                  have := HS.out
                  rw [if_pos (by omega)] at this
                  dsimp only at this
                  rwa [if_neg (by rw [← HM2.out]; simpa using hdm)] at this⟩
                have HRR : Aside0 (none = R) := ⟨by have := HR.out; rw [← HN.out] at this; exact this⟩
                have hdm2 : ¬ (dn : Int) < (m : Int) := by omega
                have hdm3 : (m : Int) ≤ (dn : Int) := by omega
                go_wp2_with fail
                exact bodyPost_ret (results_cell_tmp rfl _ _ W.heap.size 110 #[.int .i64 0, .int .u64 0, .int .u64 0] (0, 0) _ (.bool false) rfl rfl HF.out Tryz.underlying110 rfl (by kernel_rfl)) rfl ⟨by rw [← HRR.out]; rfl, HB3.out⟩)
        · obtain rfl : i = s.size := by omega
          have hS := HD.out
          rw [List.drop_of_length_le (by rw [HL.out]; exact Nat.le_refl _)] at hS
          have hS : some acc = O := hS
          obtain ⟨wd, hwd⟩ : ∃ n, k * s.size = n := ⟨_, rfl⟩
          have hmul : (k : Int) * (s.size : Int) = (wd : Int) := by rw [← hwd]; simp
          have hww : wrap64 (wd : Int) = (wd : Int) := by unfold wrap64; omega
          have hwd8 : wd ≤ 128 := by omega
          have hac := HA.out
          rw [hwd] at hac
          have h128 : (2 : Nat) ^ wd ≤ 2 ^ 128 := Nat.pow_le_pow_right (by decide) hwd8
          have hcut := cut_bits_any wd acc hwd8 (by omega) wr
          rw [Nat.mod_eq_of_lt hac] at hcut
          have HR2 : Aside0 (digR R = .tuple #[bitsV wd acc, .bool true]) := ⟨by rw [← HR.out, ← hS, ← hwd]; rfl⟩
          unfold numV2 at hcut
          unfold bitsV at hcut HR2
          have n0 := HN.out.cell 0 _ rfl
          have n1 := HN.out.cell 1 _ rfl
          obtain ⟨a0, ha0⟩ : ∃ v, nlo acc = v := ⟨_, rfl⟩
          obtain ⟨b0, hb0⟩ : ∃ v, nhi acc = v := ⟨_, rfl⟩
          rw [ha0] at n0 hcut HR2
          rw [hb0] at n1 hcut HR2
          have HCUT := Aside0.mk hcut
          clear hcut hS hwd hac h128 ha0 hb0 hlt
          go_wp2_with fail
          refine HCUT.out.mono ?_
          rintro e w2 ⟨rfl, hB2⟩
          have HB2 := Aside0.mk (HBW.out.trans (hB2.mono HBW.out.size))
          have HZ2 := Aside0.mk (HZ.out.below hB2)
          clear hB2 n0 n1
          have z0 := HZ2.out.cell 0 _ rfl
          have z1 := HZ2.out.cell 1 _ rfl
          have z2 := HZ2.out.cell 2 _ rfl
          have f0 := HZ2.out.frozen 0
          have f1 := HZ2.out.frozen 1
          have f2 := HZ2.out.frozen 2
          have HF := Aside0.mk (((HZ2.out.set 0 (.int .i64 (wd : Int))).set 1 (.int .u64 a0)).set 2 (.int .u64 b0))
          have HB3 := Aside0.mk (((HB2.out.setCell (p := ⟨W.heap.size, 0, none⟩) (Nat.le_refl _) (.int .i64 (wd : Int))).setCell (p := ⟨W.heap.size, 1, none⟩) (Nat.le_refl _) (.int .u64 a0)).setCell (p := ⟨W.heap.size, 2, none⟩) (Nat.le_refl _) (.int .u64 b0))
          go_wp2_with fail
          exact bodyPost_ret (results_cell_tmp rfl _ _ W.heap.size 110 #[.int .i64 (wd : Int), .int .u64 a0, .int .u64 b0] (0, 0) _ (.bool true) rfl rfl HF.out Tryz.underlying110 rfl (by kernel_rfl)) rfl ⟨by rw [HR2.out], HB3.out⟩
end Go.Proofs.YthhnhbpmpdminaaGreatDoor
