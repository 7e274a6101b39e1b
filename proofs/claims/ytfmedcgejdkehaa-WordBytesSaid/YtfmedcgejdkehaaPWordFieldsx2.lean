-- PRINTED BY print.sh 35421559b90ae4d0a3588c463048766b98c2df88dd9212a6774a882060cdf62d: not written by this session
import Derived.Test.YtfmedcgejdkehaaPWordFieldsx0
import Derived.Test.YtfmedcgejdkehaaPWordFieldsx1
namespace Go.Proofs.Ytfmedcgejdkehaa.PWordFields
open Go.RowKit Go.Proofs.YtfmedcgejdkehaaW.PrintWords Go.Proofs.YtfmedcgejdkehaaW.PrintLast Go.Proofs.YtfmedcgejdkehaaW.PrintMore
attribute [local go_sem] max2_int min2_int max_two min_two max_three min_three max_four min_four   -- for this text's walks alone
set_option linter.unusedVariables false
set_option linter.unusedSimpArgs false

/-! ### hermitcrablaw01_WordFields: function 4 -/
def hermitcrablaw01_WordFields.f (k : Nat) (a0 : Int) (a1 : Int) (a2 : Int) (a3 : Int) : Option (Bool) := (hermitcrablaw01_awake.f k).bind fun t106 => (if t106 = true then ((word_Field.f k a0 a1 a2).bind fun t107 => ((hermitcrabref01_Field.f k a0 a1 a2).bind fun t108 => (if t107 = t108 then ((word_With.f k a0 a1 a2 a3).bind fun t109 => ((hermitcrabref01_With.f k a0 a1 a2 a3).bind fun t110 => (some (t109 == t110)))) else (some false)))) else (some false))
theorem hermitcrablaw01_WordFields.mono : ∀ a0 a1 a2 a3 k, LeO (hermitcrablaw01_WordFields.f k a0 a1 a2 a3) (hermitcrablaw01_WordFields.f (k + 1) a0 a1 a2 a3) := by
  intro a0 a1 a2 a3 k
  unfold hermitcrablaw01_WordFields.f
  repeat' first
      | (with_reducible exact hermitcrablaw01_awake.mono _)
      | (with_reducible exact hermitcrabref01_Field.mono _ _ _ _)
      | (with_reducible exact hermitcrabref01_With.mono _ _ _ _ _)
      | (with_reducible exact word_Field.mono _ _ _ _)
      | (with_reducible exact word_With.mono _ _ _ _ _)
      | (with_reducible exact LeO.refl _)
      | (with_reducible exact LeO.none _)
      | (with_reducible refine LeO.ite ?_ ?_)
      | (with_reducible refine LeO.bind ?_ (fun _ => ?_))
      | exact hermitcrablaw01_awake.mono _
      | exact hermitcrabref01_Field.mono _ _ _ _
      | exact hermitcrabref01_With.mono _ _ _ _ _
      | exact word_Field.mono _ _ _ _
      | exact word_With.mono _ _ _ _ _
      | exact LeO.none _
      | refine LeO.ite ?_ ?_
      | refine LeO.bind ?_ (fun _ => ?_)
set_option maxHeartbeats 8000000 in
set_option maxRecDepth 100000 in
theorem hermitcrablaw01_WordFields.calls (k : Nat) (a0 : Int) (a1 : Int) (a2 : Int) (a3 : Int) (r : Bool) (w : World) (h : hermitcrablaw01_WordFields.f k a0 a1 a2 a3 = some r) :
    Calls Try.prog 4 #[.int .u64 a0, .int .i64 a1, .int .i64 a2, .int .u64 a3] w fun e w' => e = .returned (.bool r) ∧ Drawn0 w w' := by
  have H : ((hermitcrablaw01_awake.f k).bind fun t106 => (if t106 = true then ((word_Field.f k a0 a1 a2).bind fun t107 => ((hermitcrabref01_Field.f k a0 a1 a2).bind fun t108 => (if t107 = t108 then ((word_With.f k a0 a1 a2 a3).bind fun t109 => ((hermitcrabref01_With.f k a0 a1 a2 a3).bind fun t110 => (some (t109 == t110)))) else (some false)))) else (some false))) = some r := h
  clear h
  replace H := Option.bind_eq_some_iff.mp H
  obtain ⟨t106, A50, H⟩ := H
  replace H : (if t106 = true then ((word_Field.f k a0 a1 a2).bind fun t107 => ((hermitcrabref01_Field.f k a0 a1 a2).bind fun t108 => (if t107 = t108 then ((word_With.f k a0 a1 a2 a3).bind fun t109 => ((hermitcrabref01_With.f k a0 a1 a2 a3).bind fun t110 => (some (t109 == t110)))) else (some false)))) else (some false)) = some r := H
  have A5 := Aside0.mk A50
  clear A50
  by_cases c6 : t106 = true
  · subst c6
    have H1 : ((word_Field.f k a0 a1 a2).bind fun t107 => ((hermitcrabref01_Field.f k a0 a1 a2).bind fun t108 => (if t107 = t108 then ((word_With.f k a0 a1 a2 a3).bind fun t109 => ((hermitcrabref01_With.f k a0 a1 a2 a3).bind fun t110 => (some (t109 == t110)))) else (some false)))) = some r := by rw [if_pos rfl] at H; exact H
    clear H
    have H := H1
    clear H1
    replace H := Option.bind_eq_some_iff.mp H
    obtain ⟨t107, A70, H⟩ := H
    replace H : ((hermitcrabref01_Field.f k a0 a1 a2).bind fun t108 => (if t107 = t108 then ((word_With.f k a0 a1 a2 a3).bind fun t109 => ((hermitcrabref01_With.f k a0 a1 a2 a3).bind fun t110 => (some (t109 == t110)))) else (some false))) = some r := H
    have A7 := Aside0.mk A70
    clear A70
    replace H := Option.bind_eq_some_iff.mp H
    obtain ⟨t108, A80, H⟩ := H
    replace H : (if t107 = t108 then ((word_With.f k a0 a1 a2 a3).bind fun t109 => ((hermitcrabref01_With.f k a0 a1 a2 a3).bind fun t110 => (some (t109 == t110)))) else (some false)) = some r := H
    have A8 := Aside0.mk A80
    clear A80
    by_cases c9 : t107 = t108
    · rw [if_pos c9] at H
      have c9b0 : (t107 == t108) = true := beq_iff_eq.mpr c9
      have c9b1 : (t107 != t108) = false := bne_eq_false_iff_eq.mpr c9
      clear c9
      replace H := Option.bind_eq_some_iff.mp H
      obtain ⟨t109, A100, H⟩ := H
      replace H : ((hermitcrabref01_With.f k a0 a1 a2 a3).bind fun t110 => (some (t109 == t110))) = some r := H
      have A10 := Aside0.mk A100
      clear A100
      replace H := Option.bind_eq_some_iff.mp H
      obtain ⟨t110, A110, H⟩ := H
      replace H : (some (t109 == t110)) = some r := H
      have A11 := Aside0.mk A110
      clear A110
      obtain rfl := Option.some.inj H
      go_enter Try.func4, Try.ntmps4
      go_wp2_with (first | ((with_reducible refine gate_callee (f := 9) rfl ?_); refine goesL_ (some 9) rfl rfl Try.func9 (by kernel_rfl) rfl #[] rfl (by (try simp only [List.map_toArray, List.map_cons, List.map_nil]); first | done | rfl | (simp only [List.length_drop, List.length_take]; rfl)) ?_; (with_reducible refine (hermitcrablaw01_awake.calls k  true _ A5.out).mono ?_); rintro e w' ⟨rfl, ⟨nd, rfl⟩⟩; refine ⟨_, rfl, ?_⟩) | (go_at_call 12; (with_reducible refine (word_Field.calls k a0 a1 a2 t107 _ A7.out).mono ?_); rintro e w' ⟨rfl, ⟨nd, rfl⟩⟩) | (go_at_call 13; (with_reducible refine (hermitcrabref01_Field.calls k a0 a1 a2 t108 _ A8.out).mono ?_); rintro e w' ⟨rfl, ⟨nd, rfl⟩⟩) | (go_at_call 14; (with_reducible refine (word_With.calls k a0 a1 a2 a3 t109 _ A10.out).mono ?_); rintro e w' ⟨rfl, ⟨nd, rfl⟩⟩) | (go_at_call 15; (with_reducible refine (hermitcrabref01_With.calls k a0 a1 a2 a3 t110 _ A11.out).mono ?_); rintro e w' ⟨rfl, ⟨nd, rfl⟩⟩))
      go_ret
      exact ⟨by first | rfl | (simp; done) | (simp [*]; done), by repeat (first | exact Drawn0.refl _ | apply Drawn0.step)⟩
    · rw [if_neg c9] at H
      have c9b0 : (t107 == t108) = false := beq_eq_false_iff_ne.mpr c9
      have c9b1 : (t107 != t108) = true := bne_iff_ne.mpr c9
      obtain rfl := Option.some.inj H
      go_enter Try.func4, Try.ntmps4
      go_wp2_with (first | ((with_reducible refine gate_callee (f := 9) rfl ?_); refine goesL_ (some 9) rfl rfl Try.func9 (by kernel_rfl) rfl #[] rfl (by (try simp only [List.map_toArray, List.map_cons, List.map_nil]); first | done | rfl | (simp only [List.length_drop, List.length_take]; rfl)) ?_; (with_reducible refine (hermitcrablaw01_awake.calls k  true _ A5.out).mono ?_); rintro e w' ⟨rfl, ⟨nd, rfl⟩⟩; refine ⟨_, rfl, ?_⟩) | (go_at_call 12; (with_reducible refine (word_Field.calls k a0 a1 a2 t107 _ A7.out).mono ?_); rintro e w' ⟨rfl, ⟨nd, rfl⟩⟩) | (go_at_call 13; (with_reducible refine (hermitcrabref01_Field.calls k a0 a1 a2 t108 _ A8.out).mono ?_); rintro e w' ⟨rfl, ⟨nd, rfl⟩⟩))
      go_ret
      exact ⟨by first | rfl | (simp; done) | (simp [*]; done), by repeat (first | exact Drawn0.refl _ | apply Drawn0.step)⟩
  · replace c6 := Bool.eq_false_iff.mpr c6
    subst c6
    have H1 : (some false) = some r := by rw [if_neg (show ¬ (false = true) by decide)] at H; exact H
    clear H
    have H := H1
    clear H1
    obtain rfl := Option.some.inj H
    go_enter Try.func4, Try.ntmps4
    go_wp2_with (first | ((with_reducible refine gate_callee (f := 9) rfl ?_); refine goesL_ (some 9) rfl rfl Try.func9 (by kernel_rfl) rfl #[] rfl (by (try simp only [List.map_toArray, List.map_cons, List.map_nil]); first | done | rfl | (simp only [List.length_drop, List.length_take]; rfl)) ?_; (with_reducible refine (hermitcrablaw01_awake.calls k  false _ A5.out).mono ?_); rintro e w' ⟨rfl, ⟨nd, rfl⟩⟩; refine ⟨_, rfl, ?_⟩))
    go_ret
    exact ⟨by first | rfl | (simp; done) | (simp [*]; done), by repeat (first | exact Drawn0.refl _ | apply Drawn0.step)⟩

/-- THE ONE PURE STATEMENT of hermitcrablaw01_WordFields: yours. -/
def hermitcrablaw01_WordFields.Pure : Prop := ∀ (a0 : Int) (a1 : Int) (a2 : Int) (a3 : Int), (Lit.int .u64 a0).wf = true → (Lit.int .i64 a1).wf = true → (Lit.int .i64 a2).wf = true → (Lit.int .u64 a3).wf = true → ∃ k, hermitcrablaw01_WordFields.f k a0 a1 a2 a3 = some true
theorem hermitcrablaw01_WordFields.walk (P : hermitcrablaw01_WordFields.Pure) (a0 : Int) (a1 : Int) (a2 : Int) (a3 : Int) (w : World) (w0 : (Lit.int .u64 a0).wf = true) (w1 : (Lit.int .i64 a1).wf = true) (w2 : (Lit.int .i64 a2).wf = true) (w3 : (Lit.int .u64 a3).wf = true) :
    Calls Try.prog 4 #[.int .u64 a0, .int .i64 a1, .int .i64 a2, .int .u64 a3] w fun e w' => e = .returned (.bool true) ∧ Below w.heap.size w w' := by
  obtain ⟨k, h⟩ := P a0 a1 a2 a3 w0 w1 w2 w3
  refine (hermitcrablaw01_WordFields.calls k a0 a1 a2 a3 true w h).mono ?_
  rintro e w' ⟨rfl, hd⟩
  exact ⟨rfl, hd.below⟩

end Go.Proofs.Ytfmedcgejdkehaa.PWordFields
