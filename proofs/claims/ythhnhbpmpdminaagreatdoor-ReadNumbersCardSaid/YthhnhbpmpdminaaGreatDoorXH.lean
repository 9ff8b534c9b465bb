/-
Several texts as one: Nso Rmd Pru.
-/
import Derived.Test.YthhnhbpmpdminaaGreatDoorXG
import Derived.Test.YthhnhbpmpdminaaGreatDoorXC
import Derived.Lib.Strings
/-
Sorts: what a thing says, and the program's Sort. Conditions: none.
-/
namespace Go.Proofs.YthhnhbpmpdminaaGreatDoor
open Go.RowKit Go.Proofs.YthhnhbpmpdminaaGreatDoorW.PrintWords
set_option maxRecDepth 4096
def isW (x : Sx) (l : List UInt8) : Bool := !x.list && x.word.data.toList == l
def srtE : Value := .tuple #[.int .i64 0, .int .i64 53]
def srtN (o : Option Nat) : Value := match o with
  | some n => if 1 ≤ n ∧ n ≤ 128 then .tuple #[.int .i64 (n : Int), .int .i64 0] else srtE
  | none => srtE
def sortR (most : Nat) (x : Sx) : Value := match x.kids with
  | [a, b, c] => if x.list && isW a [95] && isW b [66, 105, 116, 86, 101, 99] && !c.list then srtN (numO most c.word.data.toList) else srtE
  | _ => srtE
def sortV (most : Nat) (x : Sx) : Value := if isW x [66, 111, 111, 108] then .tuple #[.int .i64 0, .int .i64 0] else sortR most x
theorem sortR_leaf {most : Nat} {x : Sx} (h : x.list = false) : sortR most x = srtE := by
  unfold sortR
  split
  · rw [h]; rfl
  · rfl
theorem sortR_len {most : Nat} {x : Sx} (h : x.kids.length ≠ 3) : sortR most x = srtE := by
  unfold sortR
  split
  · rename_i hk; rw [hk] at h; exact absurd rfl h
  · rfl
theorem sortR_three {most : Nat} {x : Sx} (h : x.kids.length = 3) (hl : x.list = true) : sortR most x = if isW (x.kids[0]'(by omega)) [95] && isW (x.kids[1]'(by omega)) [66, 105, 116, 86, 101, 99] && !(x.kids[2]'(by omega)).list then srtN (numO most (x.kids[2]'(by omega)).word.data.toList) else srtE := by
  obtain ⟨w, l, ks⟩ := x
  match ks, h, hl with
  | [a, b, c], _, hl =>
    simp only at hl
    subst hl
    unfold sortR
    simp only [Bool.true_and]
    rfl
theorem kid_at {w : World} {S : Nat → Prop} {ad : Addr} {ks : List Sx} (h : RL w S ks (some ad) 0) (i : Nat) (hi : i < ks.length) : ∃ A' c', RT w S ks[i] [.string ks[i].word, .bool ks[i].list, .slice A' ks[i].kids.length c'] ∧
    w.cell? (ad.add (i * 3)) = some (.string ks[i].word) ∧ w.cell? ⟨(ad.add (i * 3)).block, (ad.add (i * 3)).off + 1, none⟩ = some (.bool ks[i].list) ∧ w.cell? ⟨(ad.add (i * 3)).block, (ad.add (i * 3)).off + 2, none⟩ = some (.slice A' ks[i].kids.length c') := by
  obtain ⟨ad', A', c', h1, _, h3, _, h5, h6, h7⟩ := RL_kid h i hi
  cases h1
  exact ⟨A', c', h3, h5, h6, h7⟩
theorem rdword_any (x : Sx) (c : List Value) (t : ByteArray) (W : World) (hc : RT W (fun k => k < W.heap.size) x c) : Calls Tryz.prog 64 #[.agg c.toArray, .string t] W fun e W' => e = .returned (.bool (isW x t.data.toList)) ∧ Below W.heap.size W W' := by
  obtain ⟨A, k, rfl, hk, hm, hws, hR⟩ := RT_cells hc
  clear hc hR
  have HV : Aside0 (isW x t.data.toList = (!x.list && x.word.data.toList == t.data.toList)) := ⟨rfl⟩
  cases hx : x.list with
  | true =>
    go_enter Tryz.func64, Tryz.ntmps64
    go_wp2_with fail
    go_returns
    exact ⟨by rw [HV.out, hx]; rfl, ((Mod.refl (fun _ => False) W).alloc _).below⟩
  | false =>
    go_enter Tryz.func64, Tryz.ntmps64
    go_wp2_with fail
    all_goals (
      go_returns
      refine ⟨?_, ((Mod.refl (fun _ => False) W).alloc _).below⟩
      rw [HV.out, hx]
      simp [ByteArray.toList_eq])
end Go.Proofs.YthhnhbpmpdminaaGreatDoor
/-
The reader of terms as a plain thing: what Term tells of a bracketed thing, and what becomes of the graph. Conditions: none.
-/
namespace Go.Proofs.YthhnhbpmpdminaaGreatDoor
set_option maxRecDepth 4096
open Go.RowKit
def hexV (b : UInt8) : Option Nat :=
  if 48 ≤ b.toNat ∧ b.toNat ≤ 57 then some (b.toNat - 48) else if 97 ≤ b.toNat ∧ b.toNat ≤ 102 then some (b.toNat - 87) else if 65 ≤ b.toNat ∧ b.toNat ≤ 70 then some (b.toNat - 55) else none
def digF (each : Nat) : Nat → List UInt8 → Option Nat
  | acc, [] => some acc
  | acc, b :: r => match hexV b with
    | some d => if d < 2 ^ each then digF each (acc * 2 ^ each + d) r else none
    | none => none
structure Bt where
  w : Nat
  n : Nat
def Bt.lo (v : Bt) : Int := (v.n % 18446744073709551616 : Nat)
def Bt.hi (v : Bt) : Int := (v.n / 18446744073709551616 : Nat)
def digitsV (each : Nat) (l : List UInt8) : Option Bt :=
  if l = [] ∨ 128 / each < l.length then none else (digF each 0 l).map fun n => ⟨each * l.length, n⟩
def bvParse (l : List UInt8) : Option Bt :=
  if l = [116, 114, 117, 101] then some ⟨0, 1⟩ else if l = [102, 97, 108, 115, 101] then some ⟨0, 0⟩
  else if l.take 2 = [35, 98] then digitsV 1 (l.drop 2) else if l.take 2 = [35, 120] then digitsV 4 (l.drop 2) else none
structure Ent where
  name : ByteArray
  defined : Bool
  params : List (ByteArray × Int)
  sort : Int
  body : Sx
abbrev Bnd := List (ByteArray × Nat)
def boundV (s : ByteArray) : Bnd → Nat
  | [] => 0
  | p :: r => if p.1.data.toList == s.data.toList then p.2 else boundV s r
/-- A name's place, and one. -/
def exi (s : ByteArray) : List Ent → Nat
  | [] => 0
  | e :: r => if e.name.data.toList == s.data.toList then 1 else match exi s r with
    | 0 => 0
    | k + 1 => k + 2
def seenV (E : List Ent) (lim : Nat) (s : ByteArray) : Option (Nat × Ent) :=
  match exi s E with
  | 0 => none
  | k + 1 => if lim < k + 1 then none else (E[k]?).map fun e => (k + 1, e)
structure Rd where
  n : Nat
  G : Gr
abbrev Rs := (Nat × Int) × Rd
def nd0 : Nd := ⟨0, 0, 0, 0, 0, 0, 0, 0, 0, 0, ⟨#[]⟩⟩
def makeF (x : Nd) (r : Rd) : Rs := ((mk r.G x).1, { r with G := (mk r.G x).2 })
def constF (v : Bt) (r : Rd) : Rs := makeF { nd0 with op := 1, sort := v.w, w := v.w, lo := v.lo, hi := v.hi } r
def twoF (op : Int) (a b : Nat) (r : Rd) : Rs := makeF { nd0 with op := op, a := a, b := b } r
def failF (e : Int) (r : Rd) : Rs := ((0, e), r)
def thenF (m : Rs) (f : Nat → Rd → Rs) : Rs := if m.1.2 ≠ 0 then failF m.1.2 m.2 else f m.1.1 m.2
def leftF (op : Int) : List Nat → Nat → Rd → Rs
  | [], out, r => ((out, 0), r)
  | b :: t, out, r => thenF (twoF op out b r) fun id r => leftF op t id r
def rightF (op : Int) : List Nat → Nat → Rd → Rs
  | [], out, r => ((out, 0), r)
  | b :: t, out, r => thenF (twoF op b out r) fun id r => rightF op t id r
abbrev Ls := (List Nat × Int) × Rd
def seqF {α : Type} (f : α → Rd → Rs) : List α → Rd → Ls
  | [], r => (([], 0), r)
  | x :: t, r => if (f x r).1.2 ≠ 0 then (([], (f x r).1.2), (f x r).2) else (((f x r).1.1 :: (seqF f t (f x r).2).1.1, (seqF f t (f x r).2).1.2), (seqF f t (f x r).2).2)
def thenL (m : Ls) (f : List Nat → Rd → Rs) : Rs := if m.1.2 ≠ 0 then failF m.1.2 m.2 else f m.1.1 m.2
def leftA (op : Int) (ids : List Nat) (r : Rd) : Rs := leftF op ids.tail (ids.getD 0 0) r
def rightA (op : Int) (ids : List Nat) (r : Rd) : Rs := rightF op ids.reverse.tail (ids.reverse.getD 0 0) r
def eqF (p : Nat × Nat) (r : Rd) : Rs := twoF 8 p.1 p.2 r
def neF (p : Nat × Nat) (r : Rd) : Rs := thenF (twoF 8 p.1 p.2 r) fun id r => makeF { nd0 with op := 3, a := id } r
def pairsV : List Nat → List (Nat × Nat)
  | [] => []
  | a :: t => t.map (fun b => (a, b)) ++ pairsV t
def chainF (ids : List Nat) (r : Rd) : Rs := thenL (seqF eqF (ids.zip ids.tail) r) fun l r => leftA 4 l r
def distinctF (ids : List Nat) (r : Rd) : Rs := thenL (seqF neF (pairsV ids) r) fun l r => leftA 4 l r
def manyV (op : Int) : Bool := op == 4 || op == 5 || op == 6 || op == 12 || op == 13 || op == 14 || op == 18 || op == 20 || op == 38 || op == 7 || op == 8 || op == -1
def numbersV (op : Int) : Nat := if op = 39 then 2 else if 40 ≤ op ∧ op ≤ 44 then 1 else 0
def nodeF (op p q : Int) (ids : List Nat) (r : Rd) : Rs :=
  makeF { nd0 with op := op, p := p, q := q, a := (ids.getD 0 0 : Nat), b := (ids.getD 1 0 : Nat), c := if arityV op = 3 then (ids.getD 2 0 : Nat) else 0 } r
def applyF (op p q : Int) (ids : List Nat) (r : Rd) : Rs :=
  if op = 8 then chainF ids r else if op = -1 then distinctF ids r else if op = 7 then rightA op ids r else if manyV op then leftA op ids r else nodeF op p q ids r
abbrev Tm := Sx → Bnd → Nat → Rd → Rs
section
variable (E : List Ent) (rec : Tm)
def allF (l : List Sx) (b : Bnd) (lim : Nat) (r : Rd) : Ls := seqF (fun x r => rec x b lim r) l r
def bodyF (e : Ent) (i : Nat) (ids : List Nat) (r : Rd) : Rs :=
  thenF (rec e.body ((e.params.map (·.1)).zip ids).reverse (i - 1) r) fun id r => if sortAt r.G.l id ≠ e.sort then failF 53 r else ((id, 0), r)
def wordF (s : ByteArray) (b : Bnd) (lim : Nat) (r : Rd) : Rs :=
  match bvParse s.data.toList with
  | some v => constF v r
  | none => if nameB s.data.toList = false then failF 50 r else if 0 < boundV s b then ((boundV s b, 0), r) else match seenV E lim s with
    | none => failF 51 r
    | some (i, e) => if e.defined = true then (if e.params ≠ [] then failF 54 r else bodyF rec e i [] r) else ((nix r.G.l s, 0), r)
def operatorF (op p q : Int) (l : List Sx) (b : Bnd) (lim : Nat) (r : Rd) : Rs :=
  if (manyV op = true ∧ l.length < 2) ∨ (manyV op = false ∧ (l.length : Int) ≠ arityV op) then failF 54 r
  else thenL (allF rec l b lim r) fun ids r => applyF op p q ids r
def numsV : List Sx → Option (List Nat)
  | [] => some []
  | x :: t => match (if x.list then none else numO 9 x.word.data.toList) with
    | none => none
    | some n => (numsV t).map fun l => n :: l
def numberedF (h l : List Sx) (b : Bnd) (lim : Nat) (r : Rd) : Rs :=
  match h with
  | a :: o :: t => if t = [] ∨ isW a [95] = false ∨ o.list = true then failF 54 r
    else if numbersV (opV o.word.data.toList) = 0 ∨ t.length ≠ numbersV (opV o.word.data.toList) then failF 54 r
    else match numsV t with
      | none => failF 50 r
      | some ns => operatorF rec (opV o.word.data.toList) (ns.getD 0 0 : Nat) (ns.getD 1 0 : Nat) l b lim r
  | _ => failF 54 r
def bitsF (l : List Sx) (r : Rd) : Rs :=
  match l with
  | [x, y] => if x.list = true ∨ x.word.data.toList.take 2 ≠ [98, 118] then failF 50 r
    else match numO 39 (x.word.data.toList.drop 2), (if y.list then none else numO 9 y.word.data.toList) with
      | some n, some w => if w < 1 ∨ 128 < w then failF 31 r else constF ⟨w, n % 2 ^ w⟩ r
      | _, _ => failF 50 r
  | _ => failF 50 r
def bindOne (k : Sx) : Option (ByteArray × Sx) :=
  match k.kids with
  | [n, t] => if k.list = true ∧ n.list = false then some (n.word, t) else none
  | _ => none
def bindAll : List Sx → Option (List (ByteArray × Sx))
  | [] => some []
  | k :: r => match bindOne k, bindAll r with
    | some p, some l => some (p :: l)
    | _, _ => none
def twiceV : List ByteArray → Bool
  | [] => false
  | s :: r => r.any (fun t => t.data.toList == s.data.toList) || twiceV r
def bindingsV (x : Sx) : Int ⊕ List (ByteArray × Sx) :=
  if x.list = false ∨ x.kids = [] then .inl 54 else match bindAll x.kids with
    | none => .inl 54
    | some l => if (l.all fun p => nameB p.1.data.toList) = false then .inl 50 else if twiceV (l.map (·.1)) = true then .inl 52 else .inr l
def letF (l : List Sx) (b : Bnd) (lim : Nat) (r : Rd) : Rs :=
  match l with
  | [x, y] => match bindingsV x with
    | .inl e => failF e r
    | .inr ps => thenL (allF rec (ps.map (·.2)) b lim r) fun ids r => rec y (((ps.map (·.1)).zip ids).reverse ++ b) lim r
  | _ => failF 54 r
def useF (s : ByteArray) (l : List Sx) (b : Bnd) (lim : Nat) (r : Rd) : Rs :=
  match seenV E lim s with
  | none => failF 51 r
  | some (i, e) => if e.defined = false then failF 51 r else if l.length ≠ e.params.length then failF 54 r
    else thenL (allF rec l b lim r) fun ids r => if ((ids.zip e.params).any fun p => sortAt r.G.l p.1 != p.2.2) = true then failF 53 r else bodyF rec e i ids r
def listF (l : List Sx) (b : Bnd) (lim : Nat) (r : Rd) : Rs :=
  match l with
  | [] => failF 54 r
  | h :: t => if h.list = true then numberedF rec h.kids t b lim r
    else if h.word.data.toList = [108, 101, 116] then letF rec t b lim r
    else if h.word.data.toList = [95] then bitsF t r
    else if nameB h.word.data.toList = true then useF E rec h.word t b lim r
    else if opV h.word.data.toList = 0 then failF 50 r
    else if numbersV (opV h.word.data.toList) ≠ 0 then failF 54 r
    else operatorF rec (opV h.word.data.toList) 0 0 t b lim r
end
/-- A term; the fuel: 201 less its depth. -/
def tmF (E : List Ent) : Nat → Tm
  | 0, _, _, _, r => failF 54 r
  | k + 1, x, b, lim, r => if 65536 ≤ r.n then failF 55 { r with n := r.n + 1 }
    else if x.list = false then wordF E (tmF E k) x.word b lim { r with n := r.n + 1 } else listF E (tmF E k) x.kids b lim { r with n := r.n + 1 }
def termF (E : List Ent) (x : Sx) (G : Gr) : Rs := tmF E 200 x [] E.length ⟨0, G⟩
end Go.Proofs.YthhnhbpmpdminaaGreatDoor
/-
Parse of package sexp: what the plain reader says. Conditions: the text's bytes can be counted by an int.
-/
namespace Go.Proofs.YthhnhbpmpdminaaGreatDoor
set_option maxRecDepth 4096
open Go.RowKit Go.Proofs.YthhnhbpmpdminaaGreatDoorW.PrintWords
theorem extract_cut (s : ByteArray) (i j : Nat) : s.extract i j = cut s.data.toList i j := by
  apply ByteArray.ext
  apply Array.ext'
  rw [Lib.extract_data]; rfl
theorem RT_word (w : World) (S : Nat → Prop) (wd : ByteArray) (h : wd.size ≤ 9223372036854775807) : RT w S (wordSx wd) [.string wd, .bool false, .slice none 0 0] :=
  RT_mk (wordSx wd) (A := none) (c := 0) (Nat.le_refl _) (by omega) h (RL_nil _ _ _ _) (by simp [wordSx])
theorem news_one {w : World} {g t : Nat} {u : Value} (h : Cells w g t [u]) : ∀ (j : Nat) (x : Value), [u][j]? = some x → w.cell? ((⟨g, 0, none⟩ : Addr).add j) = some x := by
  intro j x hx
  rw [add_plain]
  exact h.cell j x hx
theorem ne_int {b : UInt8} (k : UInt8) (h : b ≠ k) : ((b.toNat : Int) == (k.toNat : Int)) = false := by
  rw [beq_eq_false_iff_ne]; intro e; exact h (UInt8.toNat_inj.1 (by omega))
theorem prun_end {t : List UInt8} {p : PSt} (h : t.length ≤ p.i) : ∀ n, prun t n p = .ok p
  | 0 => rfl
  | n + 1 => by unfold prun; rw [List.getElem?_eq_none h]
theorem prun_err {t : List UInt8} {p : PSt} {b : UInt8} {e : Nat × Nat} {n : Nat} (hb : t[p.i]? = some b) (hs : pstep t p b = .error e) : prun t (n + 1) p = .error e := by
  unfold prun; rw [hb]; simp only; rw [hs]
theorem prun_ok {t : List UInt8} {p q : PSt} {b : UInt8} {n : Nat} (hb : t[p.i]? = some b) (hs : pstep t p b = .ok q) : prun t (n + 1) p = prun t n q := by
  rw [prun]; rw [hb]; simp only; rw [hs]
end Go.Proofs.YthhnhbpmpdminaaGreatDoor
