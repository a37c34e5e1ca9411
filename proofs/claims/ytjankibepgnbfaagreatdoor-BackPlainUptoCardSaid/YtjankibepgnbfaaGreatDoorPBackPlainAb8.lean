/- Each operation in its short form does on the machine what it does on abstract values: all of them together. -/
import Derived.Test.YtjankibepgnbfaaGreatDoorPBackPlainAb7
set_option linter.unusedVariables false
set_option linter.unusedSimpArgs false
namespace Go.Ab
section
variable {P : Program} {o : Oper} {a : Act} {w : World} {B : Base} {H : Hp} {T : Tk} {g : Gh} {nm : Nm} {F : Nat → AV}

theorem compO_isSome {x : Option Operand} {y : Option X} (h : compO x = some y) : y.isSome = x.isSome := by
  cases x with
  | none => simp only [compO, Option.some.injEq] at h; subst h; rfl
  | some x => simp only [compO, Option.map_eq_some_iff] at h; obtain ⟨z, _, rfl⟩ := h; rfl

set_option maxHeartbeats 2000000 in
theorem step_sound {io : IOp} {r : SR} (hc : compOp P o = some io) (hs : step io F H T nm = some r) (hp : r.pre) (hF : FOK g F a) (hW : WS B H T g w) (hf : g.free nm) : OpOK P o a w B H T g nm r.v r.e := by
  unfold compOp at hc
  split at hc
  · rename_i x h; obtain ⟨y, hy, rfl⟩ := Option.map_eq_some_iff.1 hc; exact ok_mov (.inl h) (rep_compX hF hy) hW hs
  · rename_i x h; obtain ⟨y, hy, rfl⟩ := Option.map_eq_some_iff.1 hc; exact ok_mov (.inr h) (rep_compX hF hy) hW hs
  · rename_i c x y h
    split at hc <;> cases hc
    rename_i h1 h2 h3; exact ok_pick h (rep_compX hF h1) (rep_compX hF h2) (rep_compX hF h3) hW hs
  · rename_i t h
    split at hc <;> try (cases hc; done)
    rename_i i hi
    split at hc <;> cases hc
    rename_i z hz
    exact ok_alloc h hi hz hW hf hs hp
  · rename_i t x h; obtain ⟨y, hy, rfl⟩ := Option.map_eq_some_iff.1 hc; exact ok_box h (rep_compX hF hy) hW hf hs hp
  · rename_i t ps h
    split at hc <;> try (cases hc; done)
    · rename_i fields i hu hi
      split at hc <;> try (cases hc; done)
      rename_i z places hz hpl
      split at hc <;> cases hc
      rename_i qs hq
      exact ok_bld hF h hu hi hz hpl hq hW hs hp
    · rename_i n e i hu hi
      split at hc <;> try (cases hc; done)
      rename_i z ie hz hie
      split at hc <;> cases hc
      rename_i qs hq
      exact ok_bldA hF h hu hi hz hie hq hW hs hp
  · rename_i t n ps h
    split at hc <;> try (cases hc; done)
    rename_i e hu
    split at hc <;> try (cases hc; done)
    rename_i i hi
    split at hc <;> try (cases hc; done)
    rename_i z xs hz hx
    split at hc <;> cases hc
    rename_i hk
    exact ok_row hF h hu hi hz hx hk.1 hk.2.1 hk.2.2.1 hk.2.2.2 hW hf hs hp
  · rename_i t x h
    split at hc <;> cases hc
    rename_i h1 h2
    exact ok_ld h (rep_compX hF h2) h1 hW hs hp
  · rename_i t x v h
    split at hc <;> cases hc
    rename_i h1 h2 h3
    exact ok_st h h1 (rep_compX hF h2) (rep_compX hF h3) hW hs hp
  · rename_i s x f h
    split at hc <;> try (cases hc; done)
    rename_i fields y hu hx
    split at hc <;> try (cases hc; done)
    rename_i fd hfd
    split at hc <;> try (cases hc; done)
    rename_i i hi
    split at hc <;> cases hc
    rename_i h0
    exact ok_fa h hu hfd hi h0 (rep_compX hF hx) hW hs
  · rename_i s x f h
    split at hc <;> try (cases hc; done)
    rename_i fields y hu hx
    split at hc <;> try (cases hc; done)
    rename_i fd hfd
    split at hc <;> cases hc
    rename_i n ha
    exact ok_fld h hu hfd ha (rep_compX hF hx) hW hs hp
  · rename_i t x i h
    split at hc <;> try (cases hc; done)
    · rename_i e y j hu hx hj
      split at hc <;> cases hc
      rename_i inf hi
      exact ok_ia h hu hi (rep_compX hF hx) (rep_compX hF hj) hW hs hp
    · rename_i n e y j hu hx hj
      split at hc <;> cases hc
      rename_i inf hi
      exact ok_iar h hu hi (rep_compX hF hx) (rep_compX hF hj) hW hs hp
  · rename_i t x i h
    split at hc <;> try (cases hc; done)
    · rename_i y j hu hx hj
      cases hc
      exact ok_ixs h hu (rep_compX hF hx) (rep_compX hF hj) hW hs hp
    · rename_i n e y j hu hx hj
      split at hc <;> cases hc
      rename_i inf m hi ha
      exact ok_ixa h hu hi ha (rep_compX hF hx) (rep_compX hF hj) hW hs hp
  · rename_i op t x y yt h
    split at hc <;> cases hc
    rename_i h1 h2
    exact ok_bin h (rep_compX hF h1) (rep_compX hF h2) hW hs hp
  · rename_i op t x h; obtain ⟨y, hy, rfl⟩ := Option.map_eq_some_iff.1 hc; exact ok_un h (rep_compX hF hy) hW hs
  · rename_i s d x h
    split at hc <;> try (cases hc; done)
    · rename_i ks k y hs' hd hx
      cases hc
      exact ok_cvi h hs' hd (rep_compX hF hx) hW hs
    · rename_i e y hs' hd hx
      split at hc <;> cases hc
      rename_i he
      exact ok_b2s h hs' he hd (rep_compX hF hx) hW hs hp
    · rename_i e y hs' hd hx
      split at hc <;> cases hc
      rename_i he
      exact ok_s2b h hs' he hd (rep_compX hF hx) hW hf hs hp
    · rename_i y hs' hd hx
      cases hc
      exact ok_cid h hs' hd (rep_compX hF hx) hW hs
    · rename_i e' e y hs' hd hx
      split at hc <;> cases hc
      rename_i hk
      exact ok_cvs h hs' hd hk.1 hk.2 (rep_compX hF hx) hW hf hs hp
  · rename_i f first caps h
    split at hc <;> cases hc
    rename_i h1 h2
    exact ok_mkf hF h h1 h2 hW hs
  · rename_i t h
    cases hc
    exact ok_mkm (by simp [execOp, h, Instr.makeMap]) hW hf hs
  · rename_i t k n h
    split at hc <;> cases hc
    rename_i kt et hu
    exact ok_mkm (by simp [execOp, h, Instr.makeMap, run_underlying hu, Act.eval, asInt, asIntOf]) hW hf hs
  · rename_i t m k v h
    split at hc <;> try (cases hc; done)
    rename_i kt et x y u hu hx hy hv
    split at hc <;> cases hc
    rename_i kc hk
    exact ok_ins (.inl h) hu hk (rep_compX hF hx) (rep_compX hF hy) (rep_compX hF hv) hW hs hp
  · rename_i t m k v h
    split at hc <;> try (cases hc; done)
    rename_i kt et x y u hu hx hy hv
    split at hc <;> cases hc
    rename_i kc hk
    exact ok_ins (.inr h) hu hk (rep_compX hF hx) (rep_compX hF hy) (rep_compX hF hv) hW hs hp
  · rename_i t m k ok h
    split at hc <;> try (cases hc; done)
    rename_i kt e x y hu hx hy
    split at hc <;> try (cases hc; done)
    rename_i kc i hk hi
    split at hc <;> cases hc
    rename_i z hz
    exact ok_lkp h hu hk hi hz (rep_compX hF hx) (rep_compX hF hy) hW hs hp
  · rename_i t x lo hi mx h
    split at hc <;> try (cases hc; done)
    · rename_i y lo' hi' hu hx hlo hhi hmx
      cases hc
      have hm : mx = none := by
        cases mx with
        | none => rfl
        | some m => simp [compO] at hmx
      subst hm
      exact ok_sls hF h hu (rep_compX hF hx) hlo hhi hW hs hp
    · rename_i e y lo' hi' mx' hu hx hlo hhi hmx
      split at hc <;> try (cases hc; done)
      rename_i inf hi2
      split at hc <;> cases hc
      rename_i hnm
      exact ok_sll hF h hu hi2 (rep_compX hF hx) hlo hhi hmx (by rw [← compO_isSome hmx, ← compO_isSome hhi]; exact hnm) hW hs hp
  · rename_i t l c h
    split at hc <;> try (cases hc; done)
    rename_i e hu
    split at hc <;> try (cases hc; done)
    rename_i i hi
    split at hc <;> try (cases hc; done)
    rename_i z y hz hx
    split at hc <;> try (cases hc; done)
    rename_i hk
    split at hc
    · rename_i hl
      split at hc
      · cases hc
        exact ok_mkr h hu hi hz hk.1 hk.2.1 hk.2.2 hl (rep_compX hF hx) hW hf hs hp
      · cases hc
        exact ok_mks h hu hi hz hk.1 hk.2.1 hk.2.2 hl (rep_compX hF hx) hW hf hs hp
    · split at hc <;> cases hc
      rename_i hl
      exact ok_mkc h hu hi hz hk.2.1 hk.2.2 hl (rep_compX hF hx) hW hf hs hp
  · rename_i x i h; obtain ⟨y, hy, rfl⟩ := Option.map_eq_some_iff.1 hc; exact ok_ext h (rep_compX hF hy) hW hs
  · rename_i x h; obtain ⟨y, hy, rfl⟩ := Option.map_eq_some_iff.1 hc; exact ok_nck h (rep_compX hF hy) hW hs
  · rename_i t x h
    split at hc <;> cases hc
    rename_i y hu hy
    exact ok_rng h hu (rep_compX hF hy) hW hf hs
  · rename_i x h; obtain ⟨y, hy, rfl⟩ := Option.map_eq_some_iff.1 hc; exact ok_nxt h (rep_compX hF hy) hW hs
  · rename_i c h
    split at hc
    · split at hc <;> cases hc
      simp [step] at hs
    · rename_i hcal
      split at hc <;> try (cases hc; done)
      rename_i x t hx ht
      split at hc <;> try (cases hc; done)
      · rename_i y hu hy
        cases hc
        exact ok_lns h hcal hx ht hu (rep_compX hF hy) hW hs
      · rename_i e y hu hy
        cases hc
        exact ok_len h hcal hx ht hu (rep_compX hF hy) hW hs
      · rename_i n e hu
        cases hc
        cases hs
        have ha : c.args = #[x] := by apply Array.ext'; simpa using hx
        have hta : c.argTypes = #[t] := by apply Array.ext'; simpa using ht
        exact .pure hW (cv := .int .i64 n) (by simp only [execOp, h, resolve, hcal, ha, hta]; simp [invoke, builtin, Builtin.len_, run_underlying hu, goInt]) rfl
    · rename_i hcal
      split at hc <;> try (cases hc; done)
      rename_i x y t u hx ht
      split at hc <;> try (cases hc; done)
      · rename_i e e2 x' y' hu hu2 h1 h2
        split at hc <;> try (cases hc; done)
        rename_i i hi
        split at hc <;> try (cases hc; done)
        rename_i z hz
        split at hc <;> cases hc
        rename_i hk
        obtain ⟨hk1, hk2, hk3, rfl⟩ := hk
        exact ok_app h hcal hx ht hu hi hz hk1 hk2 hk3 (rep_compX hF h1) (rep_compX hF h2) hW hf hs hp
      · rename_i e x' y' hu hu2 h1 h2
        split at hc <;> try (cases hc; done)
        rename_i i hi
        split at hc <;> try (cases hc; done)
        rename_i hz
        split at hc <;> cases hc
        rename_i hk
        exact ok_aps h hcal hx ht hu hu2 hi hz hk.1 hk.2 (rep_compX hF h1) (rep_compX hF h2) hW hf hs hp
    · rename_i hcal
      split at hc <;> try (cases hc; done)
      rename_i x y hx
      split at hc <;> cases hc
      rename_i h1 h2
      exact ok_mm (isMin := true) h hcal hx (rep_compX hF h1) (rep_compX hF h2) hW hs
    · rename_i hcal
      split at hc <;> try (cases hc; done)
      rename_i x y hx
      split at hc <;> cases hc
      rename_i h1 h2
      exact ok_mm (isMin := false) h hcal hx (rep_compX hF h1) (rep_compX hF h2) hW hs
    · cases hc
  · cases hc
end
end Go.Ab

