/- Facts on the purse's program: types, results, slots; no condition. -/
import Derived.Test.YtlmfdlmbahlojaaPE
set_option autoImplicit false
set_option maxRecDepth 100000
namespace Go.AM
open Go Go.RowKit Go.Proofs

theorem pf3 : PE.P.funcs.toList[3]? = some Try.f3 := by kernel_rfl
theorem fr3 : Try.f3.results = #[.tmp 6] := rfl
theorem kp3 (id : Nat) : PE.keep 3 id = kt tb3 id := rfl
theorem cu3 (args : List AV) (h : Heap) : callL PE 3 args h = bx (goX PE [.code (codeOf Try.f3)] .normal ⟨T.e.ofList 0 args, h, [], PE.keep 3⟩) (atF PE Try.f3) := y_call rfl pf3 rfl args h
noncomputable def lp3x0 : Code := subC (codeOf Try.f3) [1, 1, 1, 1, 0, 1, 0, 0]
theorem pf4 : PE.P.funcs.toList[4]? = some Try.f4 := by kernel_rfl
theorem fr4 : Try.f4.results = #[.tmp 2] := rfl
theorem kp4 (id : Nat) : PE.keep 4 id = kt tb4 id := rfl
theorem cu4 (args : List AV) (h : Heap) : callL PE 4 args h = bx (goX PE [.code (codeOf Try.f4)] .normal ⟨T.e.ofList 0 args, h, [], PE.keep 4⟩) (atF PE Try.f4) := y_call rfl pf4 rfl args h
theorem pf5 : PE.P.funcs.toList[5]? = some Try.f5 := by kernel_rfl
theorem fr5 : Try.f5.results = #[.cell 6 23, .tmp 7, .tmp 8, .tmp 9] := rfl
theorem kp5 (id : Nat) : PE.keep 5 id = kt tb5 id := rfl
theorem cu5 (args : List AV) (h : Heap) : callL PE 5 args h = bx (goX PE [.code (codeOf Try.f5)] .normal ⟨T.e.ofList 0 args, h, [], PE.keep 5⟩) (atF PE Try.f5) := y_call rfl pf5 rfl args h
noncomputable def lp5x0 : Code := subC (codeOf Try.f5) [1, 1, 1, 1, 0, 1, 0, 0]
noncomputable def lp5x1 : Code := subC (codeOf Try.f5) [1, 1, 1, 1, 1, 1, 1, 1, 1, 1, 0, 1, 0, 0]
theorem pf7 : PE.P.funcs.toList[7]? = some Try.f7 := by kernel_rfl
theorem fr7 : Try.f7.results = #[.tmp 2] := rfl
theorem kp7 (id : Nat) : PE.keep 7 id = kt tb7 id := rfl
theorem cu7 (args : List AV) (h : Heap) : callL PE 7 args h = bx (goX PE [.code (codeOf Try.f7)] .normal ⟨T.e.ofList 0 args, h, [], PE.keep 7⟩) (atF PE Try.f7) := y_call rfl pf7 rfl args h
theorem pf8 : PE.P.funcs.toList[8]? = some Try.f8 := by kernel_rfl
theorem fr8 : Try.f8.results = #[.tmp 2] := rfl
theorem kp8 (id : Nat) : PE.keep 8 id = kt tb8 id := rfl
theorem cu8 (args : List AV) (h : Heap) : callL PE 8 args h = bx (goX PE [.code (codeOf Try.f8)] .normal ⟨T.e.ofList 0 args, h, [], PE.keep 8⟩) (atF PE Try.f8) := y_call rfl pf8 rfl args h
theorem pf9 : PE.P.funcs.toList[9]? = some Try.f9 := by kernel_rfl
theorem fr9 : Try.f9.results = #[] := rfl
theorem kp9 (id : Nat) : PE.keep 9 id = kt tb9 id := rfl
theorem cu9 (args : List AV) (h : Heap) : callL PE 9 args h = bx (goX PE [.code (codeOf Try.f9)] .normal ⟨T.e.ofList 0 args, h, [], PE.keep 9⟩) (atF PE Try.f9) := y_call rfl pf9 rfl args h
theorem pf10 : PE.P.funcs.toList[10]? = some Try.f10 := by kernel_rfl
theorem fr10 : Try.f10.results = #[.tmp 4, .tmp 5] := rfl
theorem kp10 (id : Nat) : PE.keep 10 id = kt tb10 id := rfl
theorem cu10 (args : List AV) (h : Heap) : callL PE 10 args h = bx (goX PE [.code (codeOf Try.f10)] .normal ⟨T.e.ofList 0 args, h, [], PE.keep 10⟩) (atF PE Try.f10) := y_call rfl pf10 rfl args h
theorem pf11 : PE.P.funcs.toList[11]? = some Try.f11 := by kernel_rfl
theorem fr11 : Try.f11.results = #[.cell 4 25, .tmp 5] := rfl
theorem kp11 (id : Nat) : PE.keep 11 id = kt tb11 id := rfl
theorem cu11 (args : List AV) (h : Heap) : callL PE 11 args h = bx (goX PE [.code (codeOf Try.f11)] .normal ⟨T.e.ofList 0 args, h, [], PE.keep 11⟩) (atF PE Try.f11) := y_call rfl pf11 rfl args h
theorem pf12 : PE.P.funcs.toList[12]? = some Try.f12 := by kernel_rfl
theorem fr12 : Try.f12.results = #[.tmp 4] := rfl
theorem kp12 (id : Nat) : PE.keep 12 id = kt tb12 id := rfl
theorem cu12 (args : List AV) (h : Heap) : callL PE 12 args h = bx (goX PE [.code (codeOf Try.f12)] .normal ⟨T.e.ofList 0 args, h, [], PE.keep 12⟩) (atF PE Try.f12) := y_call rfl pf12 rfl args h
theorem pf13 : PE.P.funcs.toList[13]? = some Try.f13 := by kernel_rfl
theorem fr13 : Try.f13.results = #[.tmp 6, .tmp 7] := rfl
theorem kp13 (id : Nat) : PE.keep 13 id = kt tb13 id := rfl
theorem cu13 (args : List AV) (h : Heap) : callL PE 13 args h = bx (goX PE [.code (codeOf Try.f13)] .normal ⟨T.e.ofList 0 args, h, [], PE.keep 13⟩) (atF PE Try.f13) := y_call rfl pf13 rfl args h
theorem pf14 : PE.P.funcs.toList[14]? = some Try.f14 := by kernel_rfl
theorem fr14 : Try.f14.results = #[.tmp 4, .tmp 5] := rfl
theorem kp14 (id : Nat) : PE.keep 14 id = kt tb14 id := rfl
theorem cu14 (args : List AV) (h : Heap) : callL PE 14 args h = bx (goX PE [.code (codeOf Try.f14)] .normal ⟨T.e.ofList 0 args, h, [], PE.keep 14⟩) (atF PE Try.f14) := y_call rfl pf14 rfl args h
theorem pf15 : PE.P.funcs.toList[15]? = some Try.f15 := by kernel_rfl
theorem fr15 : Try.f15.results = #[.tmp 2] := rfl
theorem kp15 (id : Nat) : PE.keep 15 id = kt tb15 id := rfl
theorem cu15 (args : List AV) (h : Heap) : callL PE 15 args h = bx (goX PE [.code (codeOf Try.f15)] .normal ⟨T.e.ofList 0 args, h, [], PE.keep 15⟩) (atF PE Try.f15) := y_call rfl pf15 rfl args h
theorem pf16 : PE.P.funcs.toList[16]? = some Try.f16 := by kernel_rfl
theorem fr16 : Try.f16.results = #[.tmp 3] := rfl
theorem kp16 (id : Nat) : PE.keep 16 id = kt tb16 id := rfl
theorem cu16 (args : List AV) (h : Heap) : callL PE 16 args h = bx (goX PE [.code (codeOf Try.f16)] .normal ⟨T.e.ofList 0 args, h, [], PE.keep 16⟩) (atF PE Try.f16) := y_call rfl pf16 rfl args h
theorem pf17 : PE.P.funcs.toList[17]? = some Try.f17 := by kernel_rfl
theorem fr17 : Try.f17.results = #[.tmp 6, .tmp 7] := rfl
theorem kp17 (id : Nat) : PE.keep 17 id = kt tb17 id := rfl
theorem cu17 (args : List AV) (h : Heap) : callL PE 17 args h = bx (goX PE [.code (codeOf Try.f17)] .normal ⟨T.e.ofList 0 args, h, [], PE.keep 17⟩) (atF PE Try.f17) := y_call rfl pf17 rfl args h
noncomputable def lp17x0 : Code := subC (codeOf Try.f17) [1, 1, 1, 1, 1, 1, 1, 1, 1, 1, 1, 1, 1, 1, 0, 0, 0]
noncomputable def lp17x1 : Code := subC (codeOf Try.f17) [1, 1, 1, 1, 1, 1, 1, 1, 1, 1, 1, 1, 1, 1, 1, 1, 1, 1, 0, 0, 0]
theorem pf18 : PE.P.funcs.toList[18]? = some Try.f18 := by kernel_rfl
theorem fr18 : Try.f18.results = #[.tmp 2] := rfl
theorem kp18 (id : Nat) : PE.keep 18 id = kt tb18 id := rfl
theorem cu18 (args : List AV) (h : Heap) : callL PE 18 args h = bx (goX PE [.code (codeOf Try.f18)] .normal ⟨T.e.ofList 0 args, h, [], PE.keep 18⟩) (atF PE Try.f18) := y_call rfl pf18 rfl args h
theorem pf19 : PE.P.funcs.toList[19]? = some Try.f19 := by kernel_rfl
theorem fr19 : Try.f19.results = #[.tmp 2] := rfl
theorem kp19 (id : Nat) : PE.keep 19 id = kt tb19 id := rfl
theorem cu19 (args : List AV) (h : Heap) : callL PE 19 args h = bx (goX PE [.code (codeOf Try.f19)] .normal ⟨T.e.ofList 0 args, h, [], PE.keep 19⟩) (atF PE Try.f19) := y_call rfl pf19 rfl args h
theorem ag23 : aggC PE.P 23 = some (some 4) := by kernel_rfl
theorem ag25 : aggC PE.P 25 = some (some 2) := by kernel_rfl
theorem zc23 : zeroCells PE.P 23 = some ([.v (.int .i64 0), .v (.int .i64 0), .v (.int .i64 0), .v (.int .i64 0)]) := by kernel_rfl
theorem un23 : (PE.P.underlying 23).isSome = true := by kernel_rfl
theorem ce23 : PE.P.cellsOf 23 = 4 := by kernel_rfl
theorem ln26 : lenT PE.P 26 = some .sl := by kernel_rfl
theorem ix26 : ixT PE.P 26 = some (none, 2) := by kernel_rfl
theorem zc25 : zeroCells PE.P 25 = some ([.v (.int .i64 0), .v (.int .i64 0)]) := by kernel_rfl
theorem un25 : (PE.P.underlying 25).isSome = true := by kernel_rfl
theorem ce25 : PE.P.cellsOf 25 = 2 := by kernel_rfl
theorem fo25x0 : foA PE.P 25 0 = some 0 := by kernel_rfl
theorem ag3 : aggC PE.P 3 = some none := by kernel_rfl
theorem fo25x1 : foA PE.P 25 1 = some 1 := by kernel_rfl
theorem se26 : slE PE.P 26 = some 2 := by kernel_rfl
theorem bl23 : ∀ ps, buildAV PE.P 23 ps = bx (fillB [(0, 1), (1, 1), (2, 1), (3, 1)] [.v (.int .i64 0), .v (.int .i64 0), .v (.int .i64 0), .v (.int .i64 0)] ps) fun r => some (.agg r) := fun ps => bld_s _ _ _ _ _ (by kernel_rfl)
theorem fo23x0 : foA PE.P 23 0 = some 0 := by kernel_rfl
theorem fo23x1 : foA PE.P 23 1 = some 1 := by kernel_rfl
theorem sz26 : slZ PE.P 26 = some ([.v (.int .i64 0), .v (.int .i64 0)]) := by kernel_rfl
theorem ap26x26 : apT PE.P [26, 26] = some 2 := by kernel_rfl
theorem fo23x2 : foA PE.P 23 2 = some 2 := by kernel_rfl
theorem fo23x3 : foA PE.P 23 3 = some 3 := by kernel_rfl
theorem un3 : (PE.P.underlying 3).isSome = true := by kernel_rfl
theorem ce3 : PE.P.cellsOf 3 = 1 := by kernel_rfl
theorem bl25 : ∀ ps, buildAV PE.P 25 ps = bx (fillB [(0, 1), (1, 1)] [.v (.int .i64 0), .v (.int .i64 0)] ps) fun r => some (.agg r) := fun ps => bld_s _ _ _ _ _ (by kernel_rfl)
theorem ag2 : aggC PE.P 2 = some none := by kernel_rfl
theorem zc44 : zeroCells PE.P 44 = some ([.v (.int .u64 0), .v (.int .u64 0)]) := by kernel_rfl
theorem ix44 : ixT PE.P 44 = some (some 2, 1) := by kernel_rfl
theorem un43 : (PE.P.underlying 43).isSome = true := by kernel_rfl
theorem ce43 : PE.P.cellsOf 43 = 1 := by kernel_rfl
theorem ag43 : aggC PE.P 43 = some none := by kernel_rfl
theorem cv43x2 : cvI PE.P 43 2 = some .i64 := by kernel_rfl
theorem cv2x43 : cvI PE.P 2 43 = some .u64 := by kernel_rfl
theorem bo4 : boolT PE.P 4 = true := by kernel_rfl
theorem ag50 : aggC PE.P 50 = some none := by kernel_rfl
theorem cv3x42 : cvI PE.P 3 42 = some .u64 := by kernel_rfl
theorem cv43x5 : cvI PE.P 43 5 = some .u8 := by kernel_rfl
theorem cv5x3 : cvI PE.P 5 3 = some .i64 := by kernel_rfl

theorem pnat (f) : PE.nat f = none := rfl
theorem pext (f) : PE.ext f = none := rfl
theorem pw9 : PE.way 9 = ⟨true, false, false⟩ := rfl
theorem pw16 : PE.way 16 = ⟨false, false, false⟩ := rfl
theorem FF : (((((((type_of% @fr3) ∧ (type_of% @kp3)) ∧ ((type_of% @fr4) ∧ (type_of% @kp4))) ∧ (((type_of% @fr5) ∧ (type_of% @kp5)) ∧ ((type_of% @fr7) ∧ (type_of% @kp7)))) ∧ ((((type_of% @fr8) ∧ (type_of% @kp8)) ∧ ((type_of% @fr9) ∧ (type_of% @kp9))) ∧ (((type_of% @fr10) ∧ (type_of% @kp10)) ∧ ((type_of% @fr11) ∧ ((type_of% @kp11) ∧ (type_of% @fr12)))))) ∧ (((((type_of% @kp12) ∧ (type_of% @fr13)) ∧ ((type_of% @kp13) ∧ (type_of% @fr14))) ∧ (((type_of% @kp14) ∧ (type_of% @fr15)) ∧ ((type_of% @kp15) ∧ (type_of% @fr16)))) ∧ ((((type_of% @kp16) ∧ (type_of% @fr17)) ∧ ((type_of% @kp17) ∧ (type_of% @fr18))) ∧ (((type_of% @kp18) ∧ (type_of% @fr19)) ∧ ((type_of% @kp19) ∧ ((type_of% @ag23) ∧ (type_of% @ag25))))))) ∧ ((((((type_of% @zc23) ∧ (type_of% @un23)) ∧ ((type_of% @ce23) ∧ (type_of% @ln26))) ∧ (((type_of% @ix26) ∧ (type_of% @zc25)) ∧ ((type_of% @un25) ∧ (type_of% @ce25)))) ∧ ((((type_of% @fo25x0) ∧ (type_of% @ag3)) ∧ ((type_of% @fo25x1) ∧ (type_of% @se26))) ∧ (((type_of% @bl23) ∧ (type_of% @fo23x0)) ∧ ((type_of% @fo23x1) ∧ ((type_of% @sz26) ∧ (type_of% @ap26x26)))))) ∧ (((((type_of% @fo23x2) ∧ (type_of% @fo23x3)) ∧ ((type_of% @un3) ∧ (type_of% @ce3))) ∧ (((type_of% @bl25) ∧ (type_of% @ag2)) ∧ ((type_of% @zc44) ∧ ((type_of% @ix44) ∧ (type_of% @un43))))) ∧ ((((type_of% @ce43) ∧ (type_of% @ag43)) ∧ ((type_of% @cv43x2) ∧ (type_of% @cv2x43))) ∧ (((type_of% @bo4) ∧ (type_of% @ag50)) ∧ ((type_of% @cv3x42) ∧ ((type_of% @cv43x5) ∧ (type_of% @cv5x3)))))))) := ⟨⟨⟨⟨⟨⟨@fr3, @kp3⟩, ⟨@fr4, @kp4⟩⟩, ⟨⟨@fr5, @kp5⟩, ⟨@fr7, @kp7⟩⟩⟩, ⟨⟨⟨@fr8, @kp8⟩, ⟨@fr9, @kp9⟩⟩, ⟨⟨@fr10, @kp10⟩, ⟨@fr11, ⟨@kp11, @fr12⟩⟩⟩⟩⟩, ⟨⟨⟨⟨@kp12, @fr13⟩, ⟨@kp13, @fr14⟩⟩, ⟨⟨@kp14, @fr15⟩, ⟨@kp15, @fr16⟩⟩⟩, ⟨⟨⟨@kp16, @fr17⟩, ⟨@kp17, @fr18⟩⟩, ⟨⟨@kp18, @fr19⟩, ⟨@kp19, ⟨@ag23, @ag25⟩⟩⟩⟩⟩⟩, ⟨⟨⟨⟨⟨@zc23, @un23⟩, ⟨@ce23, @ln26⟩⟩, ⟨⟨@ix26, @zc25⟩, ⟨@un25, @ce25⟩⟩⟩, ⟨⟨⟨@fo25x0, @ag3⟩, ⟨@fo25x1, @se26⟩⟩, ⟨⟨@bl23, @fo23x0⟩, ⟨@fo23x1, ⟨@sz26, @ap26x26⟩⟩⟩⟩⟩, ⟨⟨⟨⟨@fo23x2, @fo23x3⟩, ⟨@un3, @ce3⟩⟩, ⟨⟨@bl25, @ag2⟩, ⟨@zc44, ⟨@ix44, @un43⟩⟩⟩⟩, ⟨⟨⟨@ce43, @ag43⟩, ⟨@cv43x2, @cv2x43⟩⟩, ⟨⟨@bo4, @ag50⟩, ⟨@cv3x42, ⟨@cv43x5, @cv5x3⟩⟩⟩⟩⟩⟩⟩
end Go.AM
