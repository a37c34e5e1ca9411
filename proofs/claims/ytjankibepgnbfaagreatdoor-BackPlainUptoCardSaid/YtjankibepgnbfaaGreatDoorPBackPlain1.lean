/- Part 1 of 4 of a proof: the given statement BackPlain, whatever the input that its row lets in. Conditions: those of the given row and card alone. -/
import Derived.Test.YtjankibepgnbfaaGreatDoorChecked
import Derived.Shelf.Small.Strs
import Derived.Shelf.Strings.Runes
import Derived.Shelf.Small.Utf8
import Derived.WalkMore
import Derived.Shelf.RegionOpenPlain
import Derived.Shelf.Strings.BuilderX
set_option linter.unusedVariables false
set_option linter.unusedSimpArgs false
namespace Go.Proofs.YtjankibepgnbfaaGreatDoor
open Go Go.Proofs Go.Shelf Go.RowKit Go.Lib
variable {P : Program} {ρ : Ren}
theorem idx_high {b : UInt8} (hb : 128 ≤ b.toNat) : Lib.indexByte [88, 91, 93, 92, 94, 95] b = -1 := by
  have ne : ∀ c : UInt8, c.toNat < 128 → (c == b) = false := fun c hc => by
    rw [beq_eq_false_iff_ne]; rintro rfl; omega
  simp only [Lib.indexByte, ne 88 (by decide), ne 91 (by decide), ne 93 (by decide), ne 92 (by decide), ne 94 (by decide), ne 95 (by decide)]
  rfl
set_option maxHeartbeats 4000000 in
set_option maxRecDepth 1000000 in
theorem hi_IndexRune (L : Lays.n152 P ρ) (mixed : P.follows .mixedOrders = true) (w : World) (r : Int) (h0 : 128 ≤ r) (h1 : r < 256) (a b : UInt8) (hb : 128 ≤ b.toNat) (hcv : ∀ w, (convert (ρ.t 21) (ρ.t 9) (.int .i32 r)).run P w = .ok (.string ⟨#[a, b]⟩) w) :
    Calls P (ρ.f 152) #[.string ⟨#[79, 80, 88, 91, 93, 92, 94, 95]⟩, .int .i32 r] w fun e w' => e = .returned (.int .i64 (-1)) ∧ Below w.heap.size w w' := by
  have u3 := run_underlying L.t3; have u4 := run_underlying L.t4; have u5 := run_underlying L.t5; have u9 := run_underlying L.t9; have u21 := run_underlying L.t21
  have t3 := L.t3; have a3 := L.a3; have z3 := L.z3; have v3 := L.v3
  have t4 := L.t4; have a4 := L.a4; have z4 := L.z4; have v4 := L.v4
  have t5 := L.t5; have a5 := L.a5; have z5 := L.z5; have v5 := L.v5
  have t9 := L.t9; have a9 := L.a9; have z9 := L.z9; have v9 := L.v9
  have t21 := L.t21; have a21 := L.a21; have z21 := L.z21; have v21 := L.v21
  have e137 : ∀ args w, (callFunc (ρ.f 137) args).run P w = .ok (.enter (ρ.f 137) args) w := enters_of L.f137 (by kernel_rfl) rfl
  have e119 : ∀ args w, (callFunc (ρ.f 119) args).run P w = .ok (.enter (ρ.f 119) args) w := enters_of L.f119 (by kernel_rfl) rfl
  have hn : ((((⟨#[79, 80, 88, 91, 93, 92, 94, 95]⟩ : ByteArray)[1]'(by decide)).toNat : Int) != (((⟨#[a, b]⟩ : ByteArray)[1]'(by show 1 < 2; decide)).toNat : Int)) = true := by
    have e : (((⟨#[a, b]⟩ : ByteArray)[1]'(by show 1 < 2; decide)).toNat : Int) = b.toNat := rfl
    rw [bne_iff_ne, e]
    show (80 : Int) ≠ b.toNat
    omega
  have hi : Lib.indexByte [88, 91, 93, 92, 94, 95] ((⟨#[a, b]⟩ : ByteArray)[1]'(by show 1 < 2; decide)) = -1 := idx_high hb
  have hv : Lib.validRune r = true := by
    unfold Lib.validRune
    simp; omega
  go_enter L.f152, Body.n152_ntmps ρ
  go_wp2_with (first | (go_at_fn (ρ.f 137); refine (Any.strings_IndexByte { L with } _ _ _).mono ?_; rintro e w' ⟨rfl, hw⟩; rw [hw]) | (go_at_fn (ρ.f 119); refine (Any.utf8_ValidRune { L with } _ _).mono ?_; rintro e w' ⟨rfl, hw⟩; rw [hw]))
  go_step3
  go_wp2
  refine wp_loop_once ?_
  go_wp2
  go_step3
  go_wp2
  go_region_o
  all_goals go_wp2
  all_goals (focus (go_region_with_o (refine (Any.strings_IndexByte { L with } _ _ _).mono ?_; rintro e w' ⟨rfl, hw⟩; rw [hw])))
  all_goals go_wp2
  all_goals simp +zetaDelta only [Exit.noGoto, Exit.inBlock, Exit.then]
  all_goals (go_ret; exact ⟨rfl, Below.drew (Below.drew (Below.refl _ _))⟩)
theorem enc_high : ∀ k : Fin 128, Utf8.encode ((128 + k.val : Nat) : Int) = ⟨#[UInt8.ofNat (192 + (128 + k.val) / 64), UInt8.ofNat (128 + (128 + k.val) % 64)]⟩ := by decide +kernel
theorem enc_ge : ∀ k : Fin 128, 128 ≤ (UInt8.ofNat (128 + (128 + k.val) % 64)).toNat := by decide +kernel
set_option maxHeartbeats 4000000 in
set_option maxRecDepth 1000000 in
theorem hi_ContainsRune (L : Lays.n151 P ρ) (t21 : P.underlying (ρ.t 21) = some (.int .i32)) (t9 : P.underlying (ρ.t 9) = some .string) (w : World) (r : Int) (h0 : 128 ≤ r) (h1 : r < 256) :
    Calls P (ρ.f 151) #[.string ⟨#[79, 80, 88, 91, 93, 92, 94, 95]⟩, .int .i32 r] w fun e w' => e = .returned (.bool false) ∧ Below w.heap.size w w' := by
  obtain ⟨k, hk, rfl⟩ : ∃ k : Nat, k < 128 ∧ r = ((128 + k : Nat) : Int) := ⟨(r - 128).toNat, by omega, by omega⟩
  have hcv : ∀ w, (convert (ρ.t 21) (ρ.t 9) (.int .i32 ((128 + k : Nat) : Int))).run P w = .ok (.string ⟨#[UInt8.ofNat (192 + (128 + k) / 64), UInt8.ofNat (128 + (128 + k) % 64)]⟩) w := by
    intro w
    have e := enc_high ⟨k, hk⟩
    simp only at e
    rw [← e]
    have u21 := run_underlying t21 (w := w)
    have u9 := run_underlying t9 (w := w)
    unfold convert
    go_simp
    rfl
  have hi := hi_IndexRune (P := P) (ρ := ρ) { L with } L.mixed w ((128 + k : Nat) : Int) (by omega) (by omega) _ _ (enc_ge ⟨k, hk⟩) hcv
  have t3 := L.t3; have a3 := L.a3; have z3 := L.z3; have v3 := L.v3
  have t4 := L.t4; have a4 := L.a4; have z4 := L.z4; have v4 := L.v4
  have t9 := L.t9; have a9 := L.a9; have z9 := L.z9; have v9 := L.v9
  have t21 := L.t21; have a21 := L.a21; have z21 := L.z21; have v21 := L.v21
  have e152 : ∀ args w, (callFunc (ρ.f 152) args).run P w = .ok (.enter (ρ.f 152) args) w := enters_of L.f152 (by kernel_rfl) rfl
  go_enter L.f151, Body.n151_ntmps ρ
  go_wp2_with (go_at_fn (ρ.f 152); refine hi.mono ?_; rintro e w' ⟨rfl, hw⟩)
  go_ret
  exact ⟨rfl, hw⟩
end Go.Proofs.YtjankibepgnbfaaGreatDoor

