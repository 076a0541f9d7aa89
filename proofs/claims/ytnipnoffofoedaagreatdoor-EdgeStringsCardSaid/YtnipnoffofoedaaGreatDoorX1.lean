/- Whatever the pairing and the string (of at most 40 bytes, or longer): EdgeStrings returns true; the row and its tied card. -/
import Derived.Test.YtnipnoffofoedaaGreatDoorW9
import Derived.Test.YtnipnoffofoedaaGreatDoorTie
import Derived.Test.YtnipnoffofoedaaGreatDoorCards
import Derived.ProofKit
import Derived.OpenShut
import Derived.Lay
import Derived.Stop.LaidErr
import Derived.Shelf.Vars
import Derived.SevenTiedAt
namespace Go.Proofs.YtnipnoffofoedaaGreatDoor
open Go Go.RowKit

theorem law_any (a b c d : Int) (s : ByteArray) (hs : s.size ≤ 9223372036854775807) (m : Int) (w : World) (hG : Gl w m) :
    Calls Tryz.prog 3 #[pa a b c d, .string s] w fun e w' => e = .returned (.bool true) ∧ Below w.heap.size w w' := by
  by_cases hl : 40 < s.size
  · exact law_long a b c d s hs hl w
  · have h40 : s.size ≤ 40 := by omega
    by_cases hv : strB a b = true ∧ strB c d = true ∧ b - a = d - c
    · obtain ⟨v1, v2, v3⟩ := hv
      obtain ⟨x, y, rfl, rfl, hxy, hy⟩ := strB_nat v1
      obtain ⟨z, t, rfl, rfl, hzt, ht⟩ := strB_nat v2
      have hsum : y + z = x + t := by omega
      have hok : okP (strS x y z t) x y z t := ⟨hxy, hy, ht, hsum, rfl⟩
      have hsz : (strS x y z t).size ≤ 40 := by have := okP_size hok; omega
      have h5 : ∀ W, Calls Tryz.prog 5 #[pa x y z t] W fun e w' => e = .returned (.tuple #[.string (strS x y z t), .int .i64 0]) ∧ Below W.heap.size W w' := fun W => write5_yes hxy hy ht hsum W
      have h6 : ∀ W, Calls Tryz.prog 6 #[pa x y z t] W fun e w' => e = .returned (.tuple #[.string (strS x y z t), .int .i64 0]) ∧ Below W.heap.size W w' := fun W => write6_yes hxy hy ht hsum W
      by_cases hf : ∃ a b c d, okP s a b c d
      · obtain ⟨a', b', c', d', hf⟩ := hf
        exact law_a x y z t a' b' c' d' s (strS x y z t) h40 m w hG h5 h6 (fun W g => read7_yes h40 hf m W g.hm g.hv) (fun W => read8_yes h40 hf W) (fun W g => read7_yes hsz hok m W g.hm g.hv)
          (fun W => by obtain ⟨g1, g2, g3, g4, g5⟩ := hf; have := write5_yes g1 g2 g3 g4 W; have e : strS a' b' c' d' = s := g5; rw [← e]; exact this)
      · have hf' : ∀ a b c d, ¬ okP s a b c d := fun a b c d h => hf ⟨a, b, c, d, h⟩
        exact law_b x y z t s (strS x y z t) h40 m w hG h5 h6 (fun W g => read7_none h40 hf' m W g.hm g.hv) (fun W => read8_none h40 hf' W) (fun W g => read7_yes hsz hok m W g.hm g.hv)
    · have h5 : ∀ W, Calls Tryz.prog 5 #[pa a b c d] W fun e w' => e = .returned (.tuple #[.string ⟨#[]⟩, .int .i64 1]) ∧ Below W.heap.size W w' := fun W => write5_no a b c d W hv
      have h6 : ∀ W, Calls Tryz.prog 6 #[pa a b c d] W fun e w' => e = .returned (.tuple #[.string ⟨#[]⟩, .int .i64 1]) ∧ Below W.heap.size W w' := fun W => write6_no a b c d W hv
      by_cases hf : ∃ a b c d, okP s a b c d
      · obtain ⟨a', b', c', d', hf⟩ := hf
        exact law_c a b c d a' b' c' d' s h40 m w hG h5 h6 (fun W g => read7_yes h40 hf m W g.hm g.hv) (fun W => read8_yes h40 hf W)
          (fun W => by obtain ⟨g1, g2, g3, g4, g5⟩ := hf; have := write5_yes g1 g2 g3 g4 W; have e : strS a' b' c' d' = s := g5; rw [← e]; exact this)
      · have hf' : ∀ a b c d, ¬ okP s a b c d := fun a b c d h => hf ⟨a, b, c, d, h⟩
        exact law_d a b c d s h40 m w hG h5 h6 (fun W g => read7_none h40 hf' m W g.hm g.hv) (fun W => read8_none h40 hf' W)

/-! ### The row -/
open Go.ChangeShapes Go.WideShapes Go.ChangeAt
open Go.ChangeMaps (open_string shut_string)
theorem own : ownKnob Tryz.prog.godebug = Option.none := by kernel_rfl
theorem laidOut : laidOutB Tryz.prog = true := by kernel_rfl
theorem cells23 : Tryz.prog.cellsOf 23 = 2 := by kernel_rfl
theorem cells25 : Tryz.prog.cellsOf 25 = 4 := by kernel_rfl
theorem cells3 : Tryz.prog.cellsOf 3 = 1 := by kernel_rfl
section
variable {H : Type} {enc : TypeId × Value → H} {W : World} {n : Nat} {sp : Nat → Bool} {held : Bool}
set_option maxRecDepth 100000 in
theorem trod_stretch {l : List Value} {x : DataW H × List MemPlace} (h : DataW.trod enc Tryz.prog W 0 sp held n 23 l = some x) : ∃ a b : Int, l = [.int .i64 a, .int .i64 b] ∧ x.2 = [] := by
  obtain ⟨y0, y1, k, rfl, hl, h0, h1⟩ := trod_struct2 Tryz.underlying23 h
  rw [cells23] at hl
  match l, hl with
  | [u, v], _ =>
    rw [cells3] at h0 h1
    obtain ⟨a, e0, rfl, _⟩ := DataW.trod_int Tryz.underlying3 h0
    obtain ⟨b, e1, rfl, _⟩ := DataW.trod_int Tryz.underlying3 h1
    simp at e0 e1
    subst e0 e1
    exact ⟨a, b, rfl, rfl⟩
set_option maxRecDepth 100000 in
theorem trod_pairing {l : List Value} {x : DataW H × List MemPlace} (h : DataW.trod enc Tryz.prog W 0 sp held n 25 l = some x) : ∃ a b c d : Int, l = [.int .i64 a, .int .i64 b, .int .i64 c, .int .i64 d] ∧ x.2 = [] := by
  obtain ⟨y0, y1, k, rfl, hl, h0, h1⟩ := trod_struct2 Tryz.underlying25 h
  rw [cells25] at hl
  match l, hl with
  | [u0, u1, u2, u3], _ =>
    rw [cells23] at h0 h1
    obtain ⟨a, b, e0, p0⟩ := trod_stretch h0
    obtain ⟨c, d, e1, p1⟩ := trod_stretch h1
    simp at e0 e1
    obtain ⟨rfl, rfl⟩ := e0
    obtain ⟨rfl, rfl⟩ := e1
    refine ⟨a, b, c, d, rfl, ?_⟩
    show y0.2 ++ y1.2 = []
    rw [p0, p1]; rfl
end

set_option maxRecDepth 100000 in
/-- the wrap for a condition on the world, which hands the world's shape on besides -/
theorem lifted_of {os : Os} (started : os.Started) {H : Type} {enc : TypeId × Value → H}
    (witness : ∃ (w : World) (tape : Tape) (i : Input), w.os = os ∧ (w.forCall tape i).Shaped Tryz.checked.prog ∧ i.vars = [] ∧ Input.okWide Tryz.checked.prog (w.forCall tape i) .any w.heap.size 3 i ∧
      ((Rows.edgeStringsSpec.pre enc Tryz.checked.prog Tryz.f3 [] false (w.forCall tape i).memory i.args ∧ laidMetH Tryz.prog Rows.edgeStringsRow.laid (w.forCall tape i).memory) ∧ sizedMet enc Tryz.checked.prog Tryz.f3 (OpenSpec.ofChange Rows.edgeStringsSpec) false (w.forCall tape i).memory i.args) ∧
      ({} : Assume).holds Tryz.checked.prog (lone (Frame.enter Tryz.checked.prog 3 i.args .normal) [] (w.forCall tape i)))
    (contract : ∀ (W : World) (base : Nat) (args : Array Value) (ds gs : List (DataW H)) (before : List MemPlace),
      (∀ (j : Nat) t v, Tryz.f3.params[j]? = some t → args[j]? = some v → Value.okWide Tryz.prog W .any base t v) →
      DataW.Whole enc Tryz.prog Tryz.f3.params.toList Rows.edgeStringsSpec.vars false W args.toList ds gs before → W.ShapedOpen Tryz.prog → laidMetH Tryz.prog Rows.edgeStringsRow.laid W →
      Calls Tryz.prog 3 args W fun e W' => ∃ v, e = .returned v ∧ Rows.edgeStringsSpec.post enc Tryz.prog Tryz.f3 false true false false W args v W') :
    ReturnsInHanded {} Tryz.checked os 3 .any (fun w args => (Rows.edgeStringsSpec.pre enc Tryz.prog Tryz.f3 [] false w args ∧ laidMetH Tryz.prog Rows.edgeStringsRow.laid w) ∧ sizedMet enc Tryz.prog Tryz.f3 (OpenSpec.ofChange Rows.edgeStringsSpec) false w args)
      (Rows.edgeStringsSpec.post enc Tryz.prog Tryz.f3 false true false false) := by
  refine returnsInHanded_of_calls own started (by kernel_rfl) witness ?_
  intro w tape i _ hsh _ hok hpre _
  obtain ⟨_, _, _, fn', hfn', _, _, _, _, hval⟩ := hok
  have e : fn' = Tryz.f3 := Option.some.inj (hfn'.symm.trans Tryz.func3)
  subst e
  obtain ⟨⟨⟨ds, gs, before, hw, _⟩, hx⟩, _⟩ := hpre
  have hw' := DataW.Whole.of_heap (w' := w.forCall tape i) (by rfl) hw
  refine (contract (w.forCall tape i) w.heap.size i.args ds gs before hval hw' hsh (hx.of_heap (by rfl))).mono fun e W' ⟨v, he, hp⟩ => ?_
  subst he
  exact ChangeSpec.post_blind hp

theorem gSyntax : Tryz.prog.globalNamed "strconv.ErrSyntax" = some 0 := by kernel_rfl
theorem gRange : Tryz.prog.globalNamed "strconv.ErrRange" = some 1 := by kernel_rfl
theorem tSyntax : (Tryz.prog.globals[0]?).map (·.type) = some 71 := by kernel_rfl
theorem tRange : (Tryz.prog.globals[1]?).map (·.type) = some 71 := by kernel_rfl
theorem gMax : ∀ w : World, w.ShapedOpen Tryz.prog → ∃ m, w.cell? ⟨3, 0, Option.none⟩ = some (.int .i64 m) := Tryz.laysM146.s1_3
theorem star : "*errors.errorString" = "*" ++ "errors.errorString" := by decide
theorem errTypes (u : TypeId) (h : Tryz.prog.typeName? 3 u = some "*errors.errorString") : u = 225 :=
  typeName_ptr_named (nm := "errors.errorString") (by rw [← star]; kernel_rfl) (by kernel_rfl) (by decide) u (by rw [← star]; exact h)
theorem cells227 : Tryz.prog.cellsOf 227 = 1 := by kernel_rfl
theorem cells9 : Tryz.prog.cellsOf 9 = 1 := by kernel_rfl
theorem errVars {W : World} (hL : laidMet Tryz.prog Rows.edgeStringsRow.laid W) : ErrVars W := by
  have h0 : laidMet Tryz.prog [("strconv.ErrSyntax", Rows.laid_strconv_ErrSyntax)] W := hL.filter fun x => x.1 == "strconv.ErrSyntax"
  have h1 : laidMet Tryz.prog [("strconv.ErrRange", Rows.laid_strconv_ErrRange)] W := hL.filter fun x => x.1 == "strconv.ErrRange"
  obtain ⟨a0, s0, v0, _⟩ := laid_sentinel h0 gSyntax tSyntax Tryz.underlying71 errTypes Tryz.underlying225 Tryz.underlying227 rfl rfl Tryz.underlying9 cells227 cells9
  obtain ⟨a1, s1, v1, _⟩ := laid_sentinel h1 gRange tRange Tryz.underlying71 errTypes Tryz.underlying225 Tryz.underlying227 rfl rfl Tryz.underlying9 cells227 cells9
  exact ⟨⟨_, by simpa using World.var?_cell gSyntax v0 0, .inr ⟨_, _, rfl⟩⟩, ⟨_, by simpa using World.var?_cell gRange v1 0, .inr ⟨_, _, rfl⟩⟩⟩

set_option maxRecDepth 100000 in
theorem lifted (os : Os) (started : os.Started) (H : Type) (enc : TypeId × Value → H) :
    ReturnsInHanded {} Tryz.checked os 3 .any (fun w args => (Rows.edgeStringsSpec.pre enc Tryz.prog Tryz.f3 [] false w args ∧ laidMetH Tryz.prog Rows.edgeStringsRow.laid w) ∧ sizedMet enc Tryz.prog Tryz.f3 (OpenSpec.ofChange Rows.edgeStringsSpec) false w args)
      (Rows.edgeStringsSpec.post enc Tryz.prog Tryz.f3 false true false false) := by
  refine lifted_of started
    (ChangeSpec.witness_shaped (enc := enc) (C := Tryz.checked) (os := os) (X := fun w _ => laidMetH Tryz.prog Rows.edgeStringsRow.laid w) false (World.laidAll Tryz.prog os Rows.edgeStringsRow.laid) #[.agg #[.int .i64 0, .int .i64 0, .int .i64 0, .int .i64 0], .string ⟨#[]⟩] 8 (World.laidAll_os _ _ _)
      (World.shaped_of_ZipB (by kernel_rfl) (by kernel_rfl)) (by kernel_rfl) (by kernel_rfl) (by kernel_rfl)
      (by rw [MakeChecks.laidMetH_plain _ _ _ (by kernel_rfl)]; exact laidMet_laidAll _ (by kernel_rfl) (by kernel_rfl))) ?_
  intro W base args ds gs before hval0 hW hsh hL
  have hval : ∀ (j : Nat) t v, Tryz.f3.params[j]? = some t → args[j]? = some v → Value.okWide Tryz.prog W .any base t v := hval0
  have hW' := hW
  obtain ⟨p, q, hA0, hV, rfl, _, _⟩ := hW
  have hA : DataW.TrodAll enc Tryz.prog W 0 (fun _ => true) true Tryz.f3.params.toList args.toList ds p := hA0
  rw [Tryz.params3] at hA hval
  obtain ⟨v0, v1, d0, d1, p0, p1, rfl, rfl, rfl, h0, h1⟩ := trodAll_two hA
  obtain ⟨rfl, rfl⟩ := trodVars_none hV
  obtain ⟨cs, rfl, _⟩ := okWide_struct Tryz.underlying25 (hval 0 25 v0 rfl rfl)
  have h0' := h0
  obtain ⟨fuel, hf⟩ := h0
  obtain ⟨a, b, c, d, hcs, hp0⟩ := trod_pairing hf
  have hcs' : cs = #[.int .i64 a, .int .i64 b, .int .i64 c, .int .i64 d] := Array.ext' (by simpa [Value.cells] using hcs)
  subst hcs'
  simp only at hp0
  subst hp0
  obtain ⟨s, rfl, rfl, rfl, ws⟩ := open_string Tryz.underlying9 (hval 1 9 v1 rfl rfl) h1
  clear hA0 hval0
  simp only [List.append_nil] at hW'
  rw [MakeChecks.laidMetH_plain _ _ _ (by kernel_rfl)] at hL
  obtain ⟨m, hm⟩ := gMax W hsh
  have hG : Gl W m := ⟨hm, errVars hL⟩
  have hsz : s.size ≤ 9223372036854775807 := by unfold maxLen at ws; omega
  refine (law_any a b c d s hsz m W hG).mono fun e W' ⟨he, hb⟩ => ?_
  subst he
  exact ⟨_, rfl, _, _, _, [], [], [], hW', trodAll_mk1 (shut_bool Tryz.underlying4 _), trodAll_mk2 (Below.trod laidOut (by kernel_rfl) (of_decide_eq_true (by kernel_rfl)) h0' hb (fun x hx => by cases hx)) (shut_string Tryz.underlying9 ws), rfl, hb.frame _, fun h => by cases h⟩

theorem edgeStrings_row : Rows.EdgeStringsSaid :=
  OpenClaim.holds_of_wide 3 Tryz.f3 rfl rfl rfl rfl rfl rfl rfl ⟨rfl, rfl, rfl, rfl, rfl⟩ rfl rfl rfl rfl rfl (by kernel_rfl) Tryz.func3 (by kernel_rfl)
    (of_decide_eq_true (by kernel_rfl)) (by unfold Func.isWrapper; first | (rw [if_pos (by decide +kernel)]; kernel_rfl) | (rw [if_neg (by decide +kernel)]; exact ⟨rfl, rfl⟩))
    (fun os started H enc _ => lifted os started H enc)
end Go.Proofs.YtnipnoffofoedaaGreatDoor
