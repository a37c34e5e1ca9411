/- The seat's facts that all rows want; arguments opened. -/
import Derived.Test.YtgdgfefojfgpaaaDoorAb13
import Derived.Test.YtgdgfefojfgpaaaDoorA0
import Derived.WalkKit
import Derived.ProofKit
import Derived.SizedLaws
set_option linter.unusedVariables false
set_option linter.unusedSimpArgs false
set_option maxRecDepth 100000
namespace Go.Proofs.YtgdgfefojfgpaaaDoor
open Go Go.Ab Go.WideShapes Go.RowKit
theorem seat_own : ownKnob Tryd.prog.godebug = none := by kernel_rfl
theorem seat_laidOut : laidOutB Tryd.prog = true := by kernel_rfl
section
variable {H : Type} {enc : TypeId × Value → H} {W : World} {base : Nat} {v : Value} {d : DataW H} {p : List MemPlace}
theorem tr_bytes : TR enc Tryd.prog W 22 fun xs => ∃ l : List UInt8, xs = [.sl none 1 (bytesAV l)] ∧ l.length ≤ maxLen := by
  refine (TR.slice (e := 5) (sz := 1) (by kernel_rfl) (by kernel_rfl) (by omega) (TR.int (k := .u8) (by kernel_rfl))).mono ?_
  rintro xs ⟨rows, rfl, h1, h2⟩
  obtain ⟨l, rfl⟩ := bytesAV_of fun r hr => (h2 r hr).1
  exact ⟨l, rfl, by rwa [bytesAV_length] at h1⟩
theorem op_bytes (hv : Value.okWide Tryd.prog W .any base 22 v) (hd : DataW.Trod enc Tryd.prog W 0 (fun _ => true) true 22 v d p) : ∃ l : List UInt8, l.length ≤ maxLen ∧ Rep (gh0 W) (.sl none 1 (bytesAV l)) v := by
  obtain ⟨a, len, cap, rfl⟩ := okWide_slice (P := Tryd.prog) (e := 5) (by kernel_rfl) hv
  obtain ⟨x, ⟨l, h1, h2⟩, hr⟩ := tr_bytes.arg1 rfl hd
  simp only [List.cons.injEq, and_true] at h1
  subst h1
  exact ⟨l, h2, hr⟩
theorem u8_of {n : Int} (h1 : IntKind.u8.min ≤ n) (h2 : n ≤ IntKind.u8.max) : ∃ c : UInt8, (c.toNat : Int) = n := by
  have h1' : 0 ≤ n := by simpa [IntKind.min, IntKind.signed] using h1
  have h2' : n ≤ 255 := by simpa [IntKind.max, IntKind.signed, IntKind.bits] using h2
  refine ⟨UInt8.ofNat n.toNat, ?_⟩
  rw [UInt8.toNat_ofNat', Nat.mod_eq_of_lt (by omega)]; omega
theorem op_u8 (hv : Value.okWide Tryd.prog W .any base 5 v) (hd : DataW.Trod enc Tryd.prog W 0 (fun _ => true) true 5 v d p) : ∃ c : UInt8, True ∧ Rep (gh0 W) (.int .u8 (c.toNat : Int)) v := by
  obtain ⟨n, rfl⟩ := okWide_int (P := Tryd.prog) (k := .u8) (by kernel_rfl) hv
  obtain ⟨x, ⟨m, h1, h2, h3⟩, hr⟩ := (TR.int (P := Tryd.prog) (k := .u8) (by kernel_rfl)).arg1 rfl hd
  simp only [List.cons.injEq, and_true] at h1
  subst h1
  obtain ⟨c, rfl⟩ := u8_of h2 h3
  exact ⟨c, trivial, hr⟩
theorem op_int (hv : Value.okWide Tryd.prog W .any base 3 v) (hd : DataW.Trod enc Tryd.prog W 0 (fun _ => true) true 3 v d p) : ∃ n : Int, (-9223372036854775808 ≤ n ∧ n ≤ 9223372036854775807) ∧ Rep (gh0 W) (.int .i64 n) v := by
  obtain ⟨n, rfl⟩ := okWide_int (P := Tryd.prog) (k := .i64) (by kernel_rfl) hv
  obtain ⟨x, ⟨m, h1, h2, h3⟩, hr⟩ := (TR.int (P := Tryd.prog) (k := .i64) (by kernel_rfl)).arg1 rfl hd
  simp only [List.cons.injEq, and_true] at h1
  subst h1
  exact ⟨m, ⟨by simpa [IntKind.min, IntKind.signed, IntKind.bits] using h2, by simpa [IntKind.max, IntKind.signed, IntKind.bits] using h3⟩, hr⟩
theorem op_bool (hv : Value.okWide Tryd.prog W .any base 4 v) (hd : DataW.Trod enc Tryd.prog W 0 (fun _ => true) true 4 v d p) : ∃ b : Bool, True ∧ Rep (gh0 W) (.bool b) v := by
  obtain ⟨b, rfl⟩ := okWide_bool (P := Tryd.prog) (by kernel_rfl) hv
  obtain ⟨x, ⟨c, h1⟩, hr⟩ := (TR.bool (P := Tryd.prog) (by kernel_rfl)).arg1 rfl hd
  simp only [List.cons.injEq, and_true] at h1
  subst h1
  exact ⟨c, trivial, hr⟩
end
end Go.Proofs.YtgdgfefojfgpaaaDoor
