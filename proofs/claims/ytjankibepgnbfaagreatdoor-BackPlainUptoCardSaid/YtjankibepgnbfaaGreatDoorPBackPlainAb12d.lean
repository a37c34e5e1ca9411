/- A function that defers a call at its begin. -/
import Derived.Test.YtjankibepgnbfaaGreatDoorPBackPlainAb12
import Derived.DefersIn
set_option linter.unusedVariables false
set_option linter.unusedSimpArgs false
namespace Go.Ab
section
variable {P : Program} {Gl : Gh → Prop}
theorem invoke_func {k : FuncId} (h : enters P k) (args : Array Value) (w : World) : (invoke (.fn (.func k) #[]) args).run P w = .ok (.enter k args) w := by
  obtain ⟨fn, h1, h2, h3⟩ := h
  have h4 : ¬ fn.name = "runtime.NumGoroutine" := by simpa using h3
  obtain ⟨c, hc⟩ := Option.isSome_iff_exists.1 h2
  simp [invoke, callFunc, h1, h4, hc]
theorem run_defer {a : Act} {w : World} {o : Oper} {c : Call} {k : FuncId} (ho : o.op = .defer c) (hc : c.callee = .value (.func k)) :
    ((o.semAt none a.eval).run P w) = .ok (.defer { target := .fn (.func k) #[], args := c.args.map a.eval }) w := by
  have ef : a.eval (.func k) = .func (.func k) #[] #[] := rfl
  rw [Oper.semAt_none]
  unfold execOp
  simp [ho, resolve, hc, Deferred.ofValue, ef]
set_option maxHeartbeats 1000000 in
theorem FS.ofD (hm : P.follows .mixedOrders = true) (hst : Stays Gl) {k : FuncId} {n : Nat} {d : IDef} {rs : List IRes} (hi : IrOfD P k n d rs) (hnr : d.ahead.noR = true)
    {args : List AV} {H0 : Hp} {T0 : List Nm} {r : AV} (hr : r.flatT = true) (hn : args.length ≤ n)
    (h : ∀ γ, 1 ≤ γ → freshFor γ ⟨initF args, H0, (· ∈ T0)⟩ → aw P Gl d.ahead γ 0 ⟨initF args, H0, (· ∈ T0)⟩ fun ex γ₁ c₁ s₁ => ex = .normal ∧ awOps P Gl γ₁ c₁ d.pre s₁ fun s₂ =>
      aw P Gl d.rest γ₁ (c₁ + d.pre.length + 1) s₂ fun ex _ _ s₃ => (match ex with | .normal | .ret => True | _ => False) ∧ CallD P Gl d.k (d.xs.map (X.ev s₂.F)) s₃ fun s₄ => ∃ x, resOf s₄ rs = some x ∧ RepLe x r) :
    FS P Gl k args H0 T0 r [] [] := by
  obtain ⟨fn, hf, h2, hnm, h4, hres⟩ := hi
  obtain ⟨c, hb, hc⟩ := Option.bind_eq_some_iff.1 h4
  subst h2
  unfold compD at hc
  split at hc
  · rename_i c0 ops0 ops c1
    split at hc
    · rename_i o ho
      split at hc
      · rename_i cl hop hgd hdst
        split at hc
        · rename_i k2 xs i0 pre i1 g1 g2 g3 g4 g5
          obtain ⟨ia, ip, ik, ix, ir⟩ := d
          simp only [IDef.strip, Option.some.injEq, IDef.mk.injEq] at hc
          obtain ⟨rfl, rfl, rfl, rfl, rfl⟩ := hc
          simp only at h hnr
          refine ⟨⟨fn, hf, by rw [hb]; rfl, hnm⟩, fun g w vs f hinv hgl hH0 hT0 hargs hfr hfi => ?_⟩
          obtain ⟨G, hG1, hG2⟩ := hinv.top
          have hlen := RepL.length hargs
          have hB : WS ⟨w, g, mutOf g H0 (· ∈ T0), (· ∈ T0)⟩ H0 (· ∈ T0) g w :=
            ⟨hinv, hH0, hT0, ⟨rfl, rfl, rfl, Nat.le_refl _, fun _ _ _ => rfl, fun _ _ _ _ => rfl, fun _ _ h _ => h, fun _ _ _ => rfl⟩, fun p hp b e => .inl (.inl ⟨p, hp, e⟩), fun t ht b e sz n cap ho => .inl (.inr ⟨t, ht, e, sz, n, cap, ho⟩), fun t ht => .inl ht, .refl g⟩
          have hfresh : freshFor G ⟨initF args, H0, (· ∈ T0)⟩ := ⟨fun p hp e => (by
              obtain ⟨b, hm, _⟩ := hH0 p hp
              rw [(hG2 p.1 (by omega)).1] at hm; cases hm), fun t ht e => (hT0 t ht).2 (hG2 t (by omega)).2⟩
          refine callsIn_of_wp_marks hf hb trivial ?_
          have hF : FOK g (initF args) { tmps := vs.toArray ++ Array.replicate (fn.ntmps - vs.toArray.size) undef, defers := [] } := by
            intro t
            unfold initF
            by_cases ht : t < args.length
            · obtain ⟨v, h1, h2⟩ := RepL.get hargs t _ (List.getElem?_eq_getElem ht)
              have : (vs.toArray ++ Array.replicate (fn.ntmps - vs.toArray.size) undef).getD t undef = v := by
                rw [Array.getD_eq_getD_getElem?, Array.getElem?_append_left (by simp; omega)]
                simp [h1]
              rw [this]
              simpa [List.getElem?_eq_getElem ht] using h2
            · simp [List.getElem?_eq_none (Nat.le_of_not_lt ht)]
              trivial
          have first := aw_sound (N := fn.ntmps) hm c0 ia g3 Gl hst ⟨w, g, mutOf g H0 (· ∈ T0), (· ∈ T0)⟩ .bare 0 _ G 0 _ g _ w (fun _ => hnr) (h G hG1 hfresh) ⟨hF, by simp [hlen]; omega, ⟨[], ⟨rfl, rfl⟩, hB, fun p hp => by cases hp⟩, fun i j _ => hG2 _ (Nat.le_refl _), hG1, hgl, Nat.zero_le _, fun n h1 _ => h1⟩
          refine wpIn_seq (wpIn_mono (F := Fr none) first fun e a₁ w₁ he => ?_)
          cases e with
          | exit id => obtain ⟨_, _, _, _, ⟨h0, _⟩, _⟩ := he; cases h0
          | ret => obtain ⟨_, _, _, _, ⟨h0, _⟩, _⟩ := he; cases h0
          | goto l => exact he.elim
          | panic c => exact he.elim
          | outgrown => exact he.elim
          | normal =>
          obtain ⟨γ₁, c₁, s₁, g₁, ⟨_, h1⟩, hS₁⟩ := he
          refine wpIn_seq (wpIn_region ?_)
          have hsz : ops.toList = ops.toList.dropLast ++ [o] := by
            have hne : ops.toList ≠ [] := by intro e; rw [e] at ho; simp at ho
            rw [List.getLast?_eq_some_getLast hne, Option.some.injEq] at ho
            rw [← ho, List.dropLast_concat_getLast hne]
          have hl : ops.size = ops.toList.dropLast.length + 1 := by
            have := congrArg List.length hsz
            simpa using this
          have hrng : List.range ops.size = List.range' 0 ops.toList.dropLast.length ++ [ops.toList.dropLast.length] := by
            rw [hl, List.range_succ, List.range_eq_range']
          rw [hrng]
          refine ops_soundG (tl := [o]) (N := fn.ntmps) (γ := γ₁) (c := c₁) hst ops.toList.dropLast pre 0 s₁ g₁ a₁ w₁ _ (by rw [List.drop_zero]; exact hsz) g4 h1 hS₁ fun s₂ g₂ a₂ w₂ h2 hS₂ => ?_
          have hoi : ops[ops.toList.dropLast.length]? = some o := by
            rw [← Array.getElem?_toList, hsz]
            simp
          obtain ⟨Mk, ⟨m1, m1'⟩, m2, m3⟩ := hS₂.ws
          subst m1'
          have hxs := rep_compXs hS₂.frame g2
          unfold wpOpsIn
          simp only [hoi, Region.wanted, hgd, if_true]
          refine ⟨fun _ _ => trivial, ?_⟩
          show Oper.uponIn _ _ _ _ _ _ _ ((o.semAt none a₂.eval).run P w₂)
          rw [run_defer hop g1, Oper.uponIn_defer]
          show Code.wpIn _ _ _ _ _ ({ a₂ with defers := _ :: a₂.defers }.put o.dst undef) _
          rw [hdst]
          have hplen : pre.length = ops.toList.dropLast.length := (compOpers_spec g4).1
          have last := aw_sound (N := fn.ntmps) hm c1 ir g5 Gl hst ⟨w, g, mutOf g H0 (· ∈ T0), (· ∈ T0)⟩ (.out (some (k2, xs.map (X.ev s₂.F)))) 0 _ γ₁ (c₁ + pre.length + 1) s₂ g₂ { a₂ with defers := { target := .fn (.func k2) #[], args := cl.args.map a₂.eval } :: a₂.defers } w₂ (fun e => by cases e) h2
            ⟨hS₂.frame, hS₂.size, ⟨[], ⟨cl.args.toList.map a₂.eval, by rw [m1]; exact congrArg (fun z => [({ target := .fn (.func k2) #[], args := z } : Deferred)]) (Array.ext' (by simp)), hxs⟩, m2, fun p hp => by cases hp⟩, fun i j hj => hS₂.new _ _ (by omega), hS₂.gam, hS₂.gl, hS₂.low⟩
          refine wpIn_mono (F := Fr none) last fun e a' w' he => ?_
          have fin : ∀ s g' γ c, CallD P Gl k2 (xs.map (X.ev s₂.F)) s (fun s₄ => ∃ x, resOf s₄ rs = some x ∧ RepLe x r) → Sim ⟨w, g, mutOf g H0 (· ∈ T0), (· ∈ T0)⟩ fn.ntmps (.out (some (k2, xs.map (X.ev s₂.F)))) 0 Gl γ c s g' a' w' →
              LeavesInM Fence.wide 0 P fn a'.tmps (fun e w' => ∃ v g' r' H1 T1, (r' = r ∧ H1 = [] ∧ T1 = []) ∧ e = .returned v ∧ Post f H0 T0 r' H1 T1 g w v g' w') a'.defers .returning w' := by
            rintro s g' γ c ⟨Hd, Td, R, hD, d1, d2, d3⟩ hs
            obtain ⟨Mk, m1, m2, m3⟩ := hs.ws
            refine leaves_marks (H := s.H) (T := s.T) (g := g') (fun ds w'' hE hw => ?_) m1 m2 m3
            obtain ⟨us, rfl, hus⟩ := hE
            have hloc := WS.local (H0 := Hd) (T0 := Td) hw d1 d2
            refine ⟨by simp, .inr ⟨fun h => absurd h (by simp [Fence.wide]), .func k2, #[], k2, us.toArray, rfl, invoke_func hD.1 _ _, fun _ _ => trivial, ?_⟩⟩
            refine CallsDIn.mono (hD.2 g' w'' us 0 hw.inv hs.gl hloc.heap hloc.toks hus) ?_
            rintro e u w₃ ⟨rfl, v, g'', H1, T1, hR, rfl, hraw⟩
            obtain ⟨H', T', k1, k2, x, hx, hxr⟩ := d3 H1 T1 hR
            have hW := (hw.framed d1 d2 hraw.ws).weaken k1 k2
            have hle : g'.le g'' := hraw.ws.le
            have hfr' : FOK g'' s.F a' := fun t => Rep.mono hle _ _ (hs.frame t)
            obtain ⟨cv, r1, r2⟩ := results_run (N := fn.ntmps) (s := ⟨s.F, H', T'⟩) hfr' hW hres hx
            exact ⟨cv, r1, cv, _, r, [], [], ⟨rfl, rfl, rfl⟩, rfl, hand_post hfi hfr hH0 hT0 hG2 (s := ⟨s.F, H', T'⟩) hW (us := []) (by simp) (by simp) (by rw [flatT_rn hr]; exact hxr _ _ r2) (by simp [rnH]) (by simp) (flatT_ok hr) (by simp) (by simp)⟩
          cases e with
          | normal => obtain ⟨γ, c', s, g', ⟨_, h1⟩, h2⟩ := he; exact fin s g' γ c' h1 h2
          | ret => obtain ⟨γ, c', s, g', ⟨_, h1⟩, h2⟩ := he; exact fin s g' γ c' h1 h2
          | exit id => obtain ⟨γ, c', s, g', ⟨h0, _⟩, h2⟩ := he; exact h0.elim
          | goto l => exact he.elim
          | panic c => exact he.elim
          | outgrown => exact he.elim
        · cases hc
      · cases hc
    · cases hc
  · cases hc
end
end Go.Ab

