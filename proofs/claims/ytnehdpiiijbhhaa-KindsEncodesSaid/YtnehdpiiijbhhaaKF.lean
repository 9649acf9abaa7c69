/- Facts on the program: types, results, slots; no condition. -/
import Derived.Test.YtnehdpiiijbhhaaKX
set_option autoImplicit false
set_option maxRecDepth 100000
namespace Go.AM
open Go Go.RowKit Go.Proofs

theorem pf4 : KE.P.funcs.toList[4]? = some Try.f4 := by kernel_rfl
theorem fr4 : Try.f4.results = #[.tmp 2] := rfl
theorem kp4 (id : Nat) : KE.keep 4 id = kt tb4 id := rfl
theorem cu4 (args : List AV) (h : Heap) : callL KE 4 args h = bx (goX KE [.code (codeOf Try.f4)] .normal ⟨T.e.ofList 0 args, h, [], KE.keep 4⟩) (atF KE Try.f4) := y_call rfl pf4 rfl args h
theorem pf5 : KE.P.funcs.toList[5]? = some Try.f5 := by kernel_rfl
theorem fr5 : Try.f5.results = #[.tmp 2] := rfl
theorem kp5 (id : Nat) : KE.keep 5 id = kt tb5 id := rfl
theorem cu5 (args : List AV) (h : Heap) : callL KE 5 args h = bx (goX KE [.code (codeOf Try.f5)] .normal ⟨T.e.ofList 0 args, h, [], KE.keep 5⟩) (atF KE Try.f5) := y_call rfl pf5 rfl args h
theorem pf6 : KE.P.funcs.toList[6]? = some Try.f6 := by kernel_rfl
theorem fr6 : Try.f6.results = #[.tmp 2] := rfl
theorem kp6 (id : Nat) : KE.keep 6 id = kt tb6 id := rfl
theorem cu6 (args : List AV) (h : Heap) : callL KE 6 args h = bx (goX KE [.code (codeOf Try.f6)] .normal ⟨T.e.ofList 0 args, h, [], KE.keep 6⟩) (atF KE Try.f6) := y_call rfl pf6 rfl args h
theorem pf7 : KE.P.funcs.toList[7]? = some Try.f7 := by kernel_rfl
theorem fr7 : Try.f7.results = #[.tmp 4] := rfl
theorem kp7 (id : Nat) : KE.keep 7 id = kt tb7 id := rfl
theorem cu7 (args : List AV) (h : Heap) : callL KE 7 args h = bx (goX KE [.code (codeOf Try.f7)] .normal ⟨T.e.ofList 0 args, h, [], KE.keep 7⟩) (atF KE Try.f7) := y_call rfl pf7 rfl args h
theorem pf8 : KE.P.funcs.toList[8]? = some Try.f8 := by kernel_rfl
theorem fr8 : Try.f8.results = #[.tmp 2] := rfl
theorem kp8 (id : Nat) : KE.keep 8 id = kt tb8 id := rfl
theorem cu8 (args : List AV) (h : Heap) : callL KE 8 args h = bx (goX KE [.code (codeOf Try.f8)] .normal ⟨T.e.ofList 0 args, h, [], KE.keep 8⟩) (atF KE Try.f8) := y_call rfl pf8 rfl args h
noncomputable def lp8x0 : Code := subC (codeOf Try.f8) [1, 1, 1, 0, 1, 0, 0]
theorem pf10 : KE.P.funcs.toList[10]? = some Try.f10 := by kernel_rfl
theorem fr10 : Try.f10.results = #[.cell 2 26] := rfl
theorem kp10 (id : Nat) : KE.keep 10 id = kt tb10 id := rfl
theorem cu10 (args : List AV) (h : Heap) : callL KE 10 args h = bx (goX KE [.code (codeOf Try.f10)] .normal ⟨T.e.ofList 0 args, h, [], KE.keep 10⟩) (atF KE Try.f10) := y_call rfl pf10 rfl args h
theorem pf11 : KE.P.funcs.toList[11]? = some Try.f11 := by kernel_rfl
theorem fr11 : Try.f11.results = #[.tmp 2, .tmp 3] := rfl
theorem kp11 (id : Nat) : KE.keep 11 id = kt tb11 id := rfl
theorem cu11 (args : List AV) (h : Heap) : callL KE 11 args h = bx (goX KE [.code (codeOf Try.f11)] .normal ⟨T.e.ofList 0 args, h, [], KE.keep 11⟩) (atF KE Try.f11) := y_call rfl pf11 rfl args h
noncomputable def lp11x0 : Code := subC (codeOf Try.f11) [1, 1, 0, 1, 0, 0]
noncomputable def lp11x1 : Code := subC (codeOf Try.f11) [1, 1, 1, 0, 1, 0, 0]
theorem pf12 : KE.P.funcs.toList[12]? = some Try.f12 := by kernel_rfl
theorem fr12 : Try.f12.results = #[.tmp 2, .tmp 3] := rfl
theorem kp12 (id : Nat) : KE.keep 12 id = kt tb12 id := rfl
theorem cu12 (args : List AV) (h : Heap) : callL KE 12 args h = bx (goX KE [.code (codeOf Try.f12)] .normal ⟨T.e.ofList 0 args, h, [], KE.keep 12⟩) (atF KE Try.f12) := y_call rfl pf12 rfl args h
noncomputable def lp12x0 : Code := subC (codeOf Try.f12) [1, 1, 0, 1, 0, 0]
noncomputable def lp12x1 : Code := subC (codeOf Try.f12) [1, 1, 1, 0, 1, 0, 0]
theorem pf13 : KE.P.funcs.toList[13]? = some Try.f13 := by kernel_rfl
theorem fr13 : Try.f13.results = #[.tmp 2] := rfl
theorem kp13 (id : Nat) : KE.keep 13 id = kt tb13 id := rfl
theorem cu13 (args : List AV) (h : Heap) : callL KE 13 args h = bx (goX KE [.code (codeOf Try.f13)] .normal ⟨T.e.ofList 0 args, h, [], KE.keep 13⟩) (atF KE Try.f13) := y_call rfl pf13 rfl args h
noncomputable def lp13x0 : Code := subC (codeOf Try.f13) [1, 1, 1, 1, 0, 1, 0, 0]
noncomputable def lp13x1 : Code := subC (codeOf Try.f13) [1, 1, 1, 1, 1, 0, 1, 0, 0]
theorem pf14 : KE.P.funcs.toList[14]? = some Try.f14 := by kernel_rfl
theorem fr14 : Try.f14.results = #[.tmp 2] := rfl
theorem kp14 (id : Nat) : KE.keep 14 id = kt tb14 id := rfl
theorem cu14 (args : List AV) (h : Heap) : callL KE 14 args h = bx (goX KE [.code (codeOf Try.f14)] .normal ⟨T.e.ofList 0 args, h, [], KE.keep 14⟩) (atF KE Try.f14) := y_call rfl pf14 rfl args h
noncomputable def lp14x0 : Code := subC (codeOf Try.f14) [1, 1, 0, 1, 0, 0]
noncomputable def lp14x1 : Code := subC (codeOf Try.f14) [1, 1, 0, 1, 0, 0, 1, 0, 0, 1, 1, 0, 1, 0, 0]
noncomputable def lp14x2 : Code := subC (codeOf Try.f14) [1, 1, 0, 1, 0, 0, 1, 0, 0, 1, 1, 1, 0, 1, 0, 0]
noncomputable def lp14x3 : Code := subC (codeOf Try.f14) [1, 1, 1, 0, 1, 0, 0]
theorem pf15 : KE.P.funcs.toList[15]? = some Try.f15 := by kernel_rfl
theorem fr15 : Try.f15.results = #[.cell 2 26, .cell 3 28, .cell 4 3] := rfl
theorem kp15 (id : Nat) : KE.keep 15 id = kt tb15 id := rfl
theorem cu15 (args : List AV) (h : Heap) : callL KE 15 args h = bx (goX KE [.code (codeOf Try.f15)] .normal ⟨T.e.ofList 0 args, h, [], KE.keep 15⟩) (atF KE Try.f15) := y_call rfl pf15 rfl args h
noncomputable def lp15x0 : Code := subC (codeOf Try.f15) [1, 1, 1, 1, 1, 1, 0, 1, 0, 0]
noncomputable def lp15x1 : Code := subC (codeOf Try.f15) [1, 1, 1, 1, 1, 1, 1, 0, 1, 0, 0]
theorem pf16 : KE.P.funcs.toList[16]? = some Try.f16 := by kernel_rfl
theorem fr16 : Try.f16.results = #[.cell 2 26, .tmp 3, .tmp 4] := rfl
theorem kp16 (id : Nat) : KE.keep 16 id = kt tb16 id := rfl
theorem cu16 (args : List AV) (h : Heap) : callL KE 16 args h = bx (goX KE [.code (codeOf Try.f16)] .normal ⟨T.e.ofList 0 args, h, [], KE.keep 16⟩) (atF KE Try.f16) := y_call rfl pf16 rfl args h
noncomputable def lp16x0 : Code := subC (codeOf Try.f16) [1, 1, 1, 1, 1, 1, 1, 0, 1, 0, 0]
noncomputable def lp16x1 : Code := subC (codeOf Try.f16) [1, 1, 1, 1, 1, 1, 1, 1, 0, 1, 0, 0]
theorem pf17 : KE.P.funcs.toList[17]? = some Try.f17 := by kernel_rfl
theorem fr17 : Try.f17.results = #[.tmp 4] := rfl
theorem kp17 (id : Nat) : KE.keep 17 id = kt tb17 id := rfl
theorem cu17 (args : List AV) (h : Heap) : callL KE 17 args h = bx (goX KE [.code (codeOf Try.f17)] .normal ⟨T.e.ofList 0 args, h, [], KE.keep 17⟩) (atF KE Try.f17) := y_call rfl pf17 rfl args h
noncomputable def lp17x0 : Code := subC (codeOf Try.f17) [1, 1, 0, 1, 0, 0]
noncomputable def lp17x1 : Code := subC (codeOf Try.f17) [1, 1, 1, 0, 1, 0, 0]
theorem pf18 : KE.P.funcs.toList[18]? = some Try.f18 := by kernel_rfl
theorem fr18 : Try.f18.results = #[.cell 0 26] := rfl
theorem kp18 (id : Nat) : KE.keep 18 id = kt tb18 id := rfl
theorem cu18 (args : List AV) (h : Heap) : callL KE 18 args h = bx (goX KE [.code (codeOf Try.f18)] .normal ⟨T.e.ofList 0 args, h, [], KE.keep 18⟩) (atF KE Try.f18) := y_call rfl pf18 rfl args h
theorem pf19 : KE.P.funcs.toList[19]? = some Try.f19 := by kernel_rfl
theorem fr19 : Try.f19.results = #[.tmp 6] := rfl
theorem kp19 (id : Nat) : KE.keep 19 id = kt tb19 id := rfl
theorem cu19 (args : List AV) (h : Heap) : callL KE 19 args h = bx (goX KE [.code (codeOf Try.f19)] .normal ⟨T.e.ofList 0 args, h, [], KE.keep 19⟩) (atF KE Try.f19) := y_call rfl pf19 rfl args h
noncomputable def lp19x0 : Code := subC (codeOf Try.f19) [1, 0, 1, 0, 0]
theorem pf20 : KE.P.funcs.toList[20]? = some Try.f20 := by kernel_rfl
theorem fr20 : Try.f20.results = #[.tmp 4] := rfl
theorem kp20 (id : Nat) : KE.keep 20 id = kt tb20 id := rfl
theorem cu20 (args : List AV) (h : Heap) : callL KE 20 args h = bx (goX KE [.code (codeOf Try.f20)] .normal ⟨T.e.ofList 0 args, h, [], KE.keep 20⟩) (atF KE Try.f20) := y_call rfl pf20 rfl args h
theorem pf21 : KE.P.funcs.toList[21]? = some Try.f21 := by kernel_rfl
theorem fr21 : Try.f21.results = #[.tmp 2] := rfl
theorem kp21 (id : Nat) : KE.keep 21 id = kt tb21 id := rfl
theorem cu21 (args : List AV) (h : Heap) : callL KE 21 args h = bx (goX KE [.code (codeOf Try.f21)] .normal ⟨T.e.ofList 0 args, h, [], KE.keep 21⟩) (atF KE Try.f21) := y_call rfl pf21 rfl args h
theorem pf22 : KE.P.funcs.toList[22]? = some Try.f22 := by kernel_rfl
theorem fr22 : Try.f22.results = #[.tmp 4] := rfl
theorem kp22 (id : Nat) : KE.keep 22 id = kt tb22 id := rfl
theorem cu22 (args : List AV) (h : Heap) : callL KE 22 args h = bx (goX KE [.code (codeOf Try.f22)] .normal ⟨T.e.ofList 0 args, h, [], KE.keep 22⟩) (atF KE Try.f22) := y_call rfl pf22 rfl args h
theorem pf23 : KE.P.funcs.toList[23]? = some Try.f23 := by kernel_rfl
theorem fr23 : Try.f23.results = #[.tmp 2] := rfl
theorem kp23 (id : Nat) : KE.keep 23 id = kt tb23 id := rfl
theorem cu23 (args : List AV) (h : Heap) : callL KE 23 args h = bx (goX KE [.code (codeOf Try.f23)] .normal ⟨T.e.ofList 0 args, h, [], KE.keep 23⟩) (atF KE Try.f23) := y_call rfl pf23 rfl args h
theorem pf24 : KE.P.funcs.toList[24]? = some Try.f24 := by kernel_rfl
theorem fr24 : Try.f24.results = #[] := rfl
theorem kp24 (id : Nat) : KE.keep 24 id = kt tb24 id := rfl
theorem cu24 (args : List AV) (h : Heap) : callL KE 24 args h = bx (goX KE [.code (codeOf Try.f24)] .normal ⟨T.e.ofList 0 args, h, [], KE.keep 24⟩) (atF KE Try.f24) := y_call rfl pf24 rfl args h
noncomputable def lp24x0 : Code := subC (codeOf Try.f24) [1, 0, 0]
theorem pf25 : KE.P.funcs.toList[25]? = some Try.f25 := by kernel_rfl
theorem fr25 : Try.f25.results = #[] := rfl
theorem kp25 (id : Nat) : KE.keep 25 id = kt tb25 id := rfl
theorem cu25 (args : List AV) (h : Heap) : callL KE 25 args h = bx (goX KE [.code (codeOf Try.f25)] .normal ⟨T.e.ofList 0 args, h, [], KE.keep 25⟩) (atF KE Try.f25) := y_call rfl pf25 rfl args h
noncomputable def lp25x0 : Code := subC (codeOf Try.f25) [1, 0, 0]
theorem pf26 : KE.P.funcs.toList[26]? = some Try.f26 := by kernel_rfl
theorem fr26 : Try.f26.results = #[] := rfl
theorem kp26 (id : Nat) : KE.keep 26 id = kt tb26 id := rfl
theorem cu26 (args : List AV) (h : Heap) : callL KE 26 args h = bx (goX KE [.code (codeOf Try.f26)] .normal ⟨T.e.ofList 0 args, h, [], KE.keep 26⟩) (atF KE Try.f26) := y_call rfl pf26 rfl args h
noncomputable def lp26x0 : Code := subC (codeOf Try.f26) [1, 1, 1, 0, 0]
theorem pf27 : KE.P.funcs.toList[27]? = some Try.f27 := by kernel_rfl
theorem fr27 : Try.f27.results = #[.tmp 4] := rfl
theorem kp27 (id : Nat) : KE.keep 27 id = kt tb27 id := rfl
theorem cu27 (args : List AV) (h : Heap) : callL KE 27 args h = bx (goX KE [.code (codeOf Try.f27)] .normal ⟨T.e.ofList 0 args, h, [], KE.keep 27⟩) (atF KE Try.f27) := y_call rfl pf27 rfl args h
noncomputable def lp27x0 : Code := subC (codeOf Try.f27) [1, 1, 0, 1, 0, 0]
theorem pf28 : KE.P.funcs.toList[28]? = some Try.f28 := by kernel_rfl
theorem fr28 : Try.f28.results = #[.tmp 2] := rfl
theorem kp28 (id : Nat) : KE.keep 28 id = kt tb28 id := rfl
theorem cu28 (args : List AV) (h : Heap) : callL KE 28 args h = bx (goX KE [.code (codeOf Try.f28)] .normal ⟨T.e.ofList 0 args, h, [], KE.keep 28⟩) (atF KE Try.f28) := y_call rfl pf28 rfl args h
noncomputable def lp28x0 : Code := subC (codeOf Try.f28) [1, 1, 1, 1, 0, 0, 0]
theorem pf29 : KE.P.funcs.toList[29]? = some Try.f29 := by kernel_rfl
theorem fr29 : Try.f29.results = #[] := rfl
theorem kp29 (id : Nat) : KE.keep 29 id = kt tb29 id := rfl
theorem cu29 (args : List AV) (h : Heap) : callL KE 29 args h = bx (goX KE [.code (codeOf Try.f29)] .normal ⟨T.e.ofList 0 args, h, [], KE.keep 29⟩) (atF KE Try.f29) := y_call rfl pf29 rfl args h
theorem pf30 : KE.P.funcs.toList[30]? = some Try.f30 := by kernel_rfl
theorem fr30 : Try.f30.results = #[.tmp 2] := rfl
theorem kp30 (id : Nat) : KE.keep 30 id = kt tb30 id := rfl
theorem cu30 (args : List AV) (h : Heap) : callL KE 30 args h = bx (goX KE [.code (codeOf Try.f30)] .normal ⟨T.e.ofList 0 args, h, [], KE.keep 30⟩) (atF KE Try.f30) := y_call rfl pf30 rfl args h
theorem pf31 : KE.P.funcs.toList[31]? = some Try.f31 := by kernel_rfl
theorem fr31 : Try.f31.results = #[.cell 2 46] := rfl
theorem kp31 (id : Nat) : KE.keep 31 id = kt tb31 id := rfl
theorem cu31 (args : List AV) (h : Heap) : callL KE 31 args h = bx (goX KE [.code (codeOf Try.f31)] .normal ⟨T.e.ofList 0 args, h, [], KE.keep 31⟩) (atF KE Try.f31) := y_call rfl pf31 rfl args h
theorem pf32 : KE.P.funcs.toList[32]? = some Try.f32 := by kernel_rfl
theorem fr32 : Try.f32.results = #[.cell 2 51] := rfl
theorem kp32 (id : Nat) : KE.keep 32 id = kt tb32 id := rfl
theorem cu32 (args : List AV) (h : Heap) : callL KE 32 args h = bx (goX KE [.code (codeOf Try.f32)] .normal ⟨T.e.ofList 0 args, h, [], KE.keep 32⟩) (atF KE Try.f32) := y_call rfl pf32 rfl args h
theorem pf33 : KE.P.funcs.toList[33]? = some Try.f33 := by kernel_rfl
theorem fr33 : Try.f33.results = #[.cell 4 67] := rfl
theorem kp33 (id : Nat) : KE.keep 33 id = kt tb33 id := rfl
theorem cu33 (args : List AV) (h : Heap) : callL KE 33 args h = bx (goX KE [.code (codeOf Try.f33)] .normal ⟨T.e.ofList 0 args, h, [], KE.keep 33⟩) (atF KE Try.f33) := y_call rfl pf33 rfl args h
noncomputable def lp33x0 : Code := subC (codeOf Try.f33) [1, 1, 0, 1, 0, 0]
theorem pf34 : KE.P.funcs.toList[34]? = some Try.f34 := by kernel_rfl
theorem fr34 : Try.f34.results = #[.tmp 2, .tmp 3] := rfl
theorem kp34 (id : Nat) : KE.keep 34 id = kt tb34 id := rfl
theorem cu34 (args : List AV) (h : Heap) : callL KE 34 args h = bx (goX KE [.code (codeOf Try.f34)] .normal ⟨T.e.ofList 0 args, h, [], KE.keep 34⟩) (atF KE Try.f34) := y_call rfl pf34 rfl args h
theorem pf35 : KE.P.funcs.toList[35]? = some Try.f35 := by kernel_rfl
theorem fr35 : Try.f35.results = #[.tmp 6] := rfl
theorem kp35 (id : Nat) : KE.keep 35 id = kt tb35 id := rfl
theorem cu35 (args : List AV) (h : Heap) : callL KE 35 args h = bx (goX KE [.code (codeOf Try.f35)] .normal ⟨T.e.ofList 0 args, h, [], KE.keep 35⟩) (atF KE Try.f35) := y_call rfl pf35 rfl args h
noncomputable def lp35x0 : Code := subC (codeOf Try.f35) [1, 1, 0, 1, 0, 0]
theorem pf36 : KE.P.funcs.toList[36]? = some Try.f36 := by kernel_rfl
theorem fr36 : Try.f36.results = #[.tmp 6] := rfl
theorem kp36 (id : Nat) : KE.keep 36 id = kt tb36 id := rfl
theorem cu36 (args : List AV) (h : Heap) : callL KE 36 args h = bx (goX KE [.code (codeOf Try.f36)] .normal ⟨T.e.ofList 0 args, h, [], KE.keep 36⟩) (atF KE Try.f36) := y_call rfl pf36 rfl args h
theorem pf37 : KE.P.funcs.toList[37]? = some Try.f37 := by kernel_rfl
theorem fr37 : Try.f37.results = #[.tmp 2, .tmp 3] := rfl
theorem kp37 (id : Nat) : KE.keep 37 id = kt tb37 id := rfl
theorem cu37 (args : List AV) (h : Heap) : callL KE 37 args h = bx (goX KE [.code (codeOf Try.f37)] .normal ⟨T.e.ofList 0 args, h, [], KE.keep 37⟩) (atF KE Try.f37) := y_call rfl pf37 rfl args h
theorem pf39 : KE.P.funcs.toList[39]? = some Try.f39 := by kernel_rfl
theorem fr39 : Try.f39.results = #[.tmp 4] := rfl
theorem kp39 (id : Nat) : KE.keep 39 id = kt tb39 id := rfl
theorem cu39 (args : List AV) (h : Heap) : callL KE 39 args h = bx (goX KE [.code (codeOf Try.f39)] .normal ⟨T.e.ofList 0 args, h, [], KE.keep 39⟩) (atF KE Try.f39) := y_call rfl pf39 rfl args h
noncomputable def lp39x0 : Code := subC (codeOf Try.f39) [1, 1, 0, 1, 0, 0]
theorem pf40 : KE.P.funcs.toList[40]? = some Try.f40 := by kernel_rfl
theorem fr40 : Try.f40.results = #[.tmp 2] := rfl
theorem kp40 (id : Nat) : KE.keep 40 id = kt tb40 id := rfl
theorem cu40 (args : List AV) (h : Heap) : callL KE 40 args h = bx (goX KE [.code (codeOf Try.f40)] .normal ⟨T.e.ofList 0 args, h, [], KE.keep 40⟩) (atF KE Try.f40) := y_call rfl pf40 rfl args h
theorem pf41 : KE.P.funcs.toList[41]? = some Try.f41 := by kernel_rfl
theorem fr41 : Try.f41.results = #[.tmp 2] := rfl
theorem kp41 (id : Nat) : KE.keep 41 id = kt tb41 id := rfl
theorem cu41 (args : List AV) (h : Heap) : callL KE 41 args h = bx (goX KE [.code (codeOf Try.f41)] .normal ⟨T.e.ofList 0 args, h, [], KE.keep 41⟩) (atF KE Try.f41) := y_call rfl pf41 rfl args h
theorem pf42 : KE.P.funcs.toList[42]? = some Try.f42 := by kernel_rfl
theorem fr42 : Try.f42.results = #[.tmp 2, .tmp 3, .tmp 4, .tmp 5] := rfl
theorem kp42 (id : Nat) : KE.keep 42 id = kt tb42 id := rfl
theorem cu42 (args : List AV) (h : Heap) : callL KE 42 args h = bx (goX KE [.code (codeOf Try.f42)] .normal ⟨T.e.ofList 0 args, h, [], KE.keep 42⟩) (atF KE Try.f42) := y_call rfl pf42 rfl args h
theorem pf43 : KE.P.funcs.toList[43]? = some Try.f43 := by kernel_rfl
theorem fr43 : Try.f43.results = #[.tmp 4, .tmp 5, .tmp 6] := rfl
theorem kp43 (id : Nat) : KE.keep 43 id = kt tb43 id := rfl
theorem cu43 (args : List AV) (h : Heap) : callL KE 43 args h = bx (goX KE [.code (codeOf Try.f43)] .normal ⟨T.e.ofList 0 args, h, [], KE.keep 43⟩) (atF KE Try.f43) := y_call rfl pf43 rfl args h
noncomputable def lp43x0 : Code := subC (codeOf Try.f43) [1, 1, 0, 0, 0]
noncomputable def lp43x1 : Code := subC (codeOf Try.f43) [1, 1, 1, 1, 0, 0, 0]
theorem pf44 : KE.P.funcs.toList[44]? = some Try.f44 := by kernel_rfl
theorem fr44 : Try.f44.results = #[.tmp 2, .tmp 3] := rfl
theorem kp44 (id : Nat) : KE.keep 44 id = kt tb44 id := rfl
theorem cu44 (args : List AV) (h : Heap) : callL KE 44 args h = bx (goX KE [.code (codeOf Try.f44)] .normal ⟨T.e.ofList 0 args, h, [], KE.keep 44⟩) (atF KE Try.f44) := y_call rfl pf44 rfl args h
theorem pf45 : KE.P.funcs.toList[45]? = some Try.f45 := by kernel_rfl
theorem fr45 : Try.f45.results = #[.tmp 2] := rfl
theorem kp45 (id : Nat) : KE.keep 45 id = kt tb45 id := rfl
theorem cu45 (args : List AV) (h : Heap) : callL KE 45 args h = bx (goX KE [.code (codeOf Try.f45)] .normal ⟨T.e.ofList 0 args, h, [], KE.keep 45⟩) (atF KE Try.f45) := y_call rfl pf45 rfl args h
theorem pf46 : KE.P.funcs.toList[46]? = some Try.f46 := by kernel_rfl
theorem fr46 : Try.f46.results = #[.cell 2 2, .cell 3 28] := rfl
theorem kp46 (id : Nat) : KE.keep 46 id = kt tb46 id := rfl
theorem cu46 (args : List AV) (h : Heap) : callL KE 46 args h = bx (goX KE [.code (codeOf Try.f46)] .normal ⟨T.e.ofList 0 args, h, [], KE.keep 46⟩) (atF KE Try.f46) := y_call rfl pf46 rfl args h
theorem pf48 : KE.P.funcs.toList[48]? = some Try.f48 := by kernel_rfl
theorem fr48 : Try.f48.results = #[] := rfl
theorem kp48 (id : Nat) : KE.keep 48 id = kt tb48 id := rfl
theorem cu48 (args : List AV) (h : Heap) : callL KE 48 args h = bx (goX KE [.code (codeOf Try.f48)] .normal ⟨T.e.ofList 0 args, h, [], KE.keep 48⟩) (atF KE Try.f48) := y_call rfl pf48 rfl args h
theorem pf49 : KE.P.funcs.toList[49]? = some Try.f49 := by kernel_rfl
theorem fr49 : Try.f49.results = #[.tmp 4] := rfl
theorem kp49 (id : Nat) : KE.keep 49 id = kt tb49 id := rfl
theorem cu49 (args : List AV) (h : Heap) : callL KE 49 args h = bx (goX KE [.code (codeOf Try.f49)] .normal ⟨T.e.ofList 0 args, h, [], KE.keep 49⟩) (atF KE Try.f49) := y_call rfl pf49 rfl args h
theorem pf50 : KE.P.funcs.toList[50]? = some Try.f50 := by kernel_rfl
theorem fr50 : Try.f50.results = #[.tmp 2] := rfl
theorem kp50 (id : Nat) : KE.keep 50 id = kt tb50 id := rfl
theorem cu50 (args : List AV) (h : Heap) : callL KE 50 args h = bx (goX KE [.code (codeOf Try.f50)] .normal ⟨T.e.ofList 0 args, h, [], KE.keep 50⟩) (atF KE Try.f50) := y_call rfl pf50 rfl args h
theorem pf51 : KE.P.funcs.toList[51]? = some Try.f51 := by kernel_rfl
theorem fr51 : Try.f51.results = #[.tmp 2] := rfl
theorem kp51 (id : Nat) : KE.keep 51 id = kt tb51 id := rfl
theorem cu51 (args : List AV) (h : Heap) : callL KE 51 args h = bx (goX KE [.code (codeOf Try.f51)] .normal ⟨T.e.ofList 0 args, h, [], KE.keep 51⟩) (atF KE Try.f51) := y_call rfl pf51 rfl args h
theorem pf53 : KE.P.funcs.toList[53]? = some Try.f53 := by kernel_rfl
theorem fr53 : Try.f53.results = #[.tmp 2] := rfl
theorem kp53 (id : Nat) : KE.keep 53 id = kt tb53 id := rfl
theorem cu53 (args : List AV) (h : Heap) : callL KE 53 args h = bx (goX KE [.code (codeOf Try.f53)] .normal ⟨T.e.ofList 0 args, h, [], KE.keep 53⟩) (atF KE Try.f53) := y_call rfl pf53 rfl args h
theorem pf54 : KE.P.funcs.toList[54]? = some Try.f54 := by kernel_rfl
theorem fr54 : Try.f54.results = #[.tmp 4] := rfl
theorem kp54 (id : Nat) : KE.keep 54 id = kt tb54 id := rfl
theorem cu54 (args : List AV) (h : Heap) : callL KE 54 args h = bx (goX KE [.code (codeOf Try.f54)] .normal ⟨T.e.ofList 0 args, h, [], KE.keep 54⟩) (atF KE Try.f54) := y_call rfl pf54 rfl args h
theorem pf55 : KE.P.funcs.toList[55]? = some Try.f55 := by kernel_rfl
theorem fr55 : Try.f55.results = #[.tmp 2, .tmp 3] := rfl
theorem kp55 (id : Nat) : KE.keep 55 id = kt tb55 id := rfl
theorem cu55 (args : List AV) (h : Heap) : callL KE 55 args h = bx (goX KE [.code (codeOf Try.f55)] .normal ⟨T.e.ofList 0 args, h, [], KE.keep 55⟩) (atF KE Try.f55) := y_call rfl pf55 rfl args h
theorem pf56 : KE.P.funcs.toList[56]? = some Try.f56 := by kernel_rfl
theorem fr56 : Try.f56.results = #[.tmp 2] := rfl
theorem kp56 (id : Nat) : KE.keep 56 id = kt tb56 id := rfl
theorem cu56 (args : List AV) (h : Heap) : callL KE 56 args h = bx (goX KE [.code (codeOf Try.f56)] .normal ⟨T.e.ofList 0 args, h, [], KE.keep 56⟩) (atF KE Try.f56) := y_call rfl pf56 rfl args h
theorem pf57 : KE.P.funcs.toList[57]? = some Try.f57 := by kernel_rfl
theorem fr57 : Try.f57.results = #[.tmp 2] := rfl
theorem kp57 (id : Nat) : KE.keep 57 id = kt tb57 id := rfl
theorem cu57 (args : List AV) (h : Heap) : callL KE 57 args h = bx (goX KE [.code (codeOf Try.f57)] .normal ⟨T.e.ofList 0 args, h, [], KE.keep 57⟩) (atF KE Try.f57) := y_call rfl pf57 rfl args h
theorem pf58 : KE.P.funcs.toList[58]? = some Try.f58 := by kernel_rfl
theorem fr58 : Try.f58.results = #[.tmp 4] := rfl
theorem kp58 (id : Nat) : KE.keep 58 id = kt tb58 id := rfl
theorem cu58 (args : List AV) (h : Heap) : callL KE 58 args h = bx (goX KE [.code (codeOf Try.f58)] .normal ⟨T.e.ofList 0 args, h, [], KE.keep 58⟩) (atF KE Try.f58) := y_call rfl pf58 rfl args h
theorem pf60 : KE.P.funcs.toList[60]? = some Try.f60 := by kernel_rfl
theorem fr60 : Try.f60.results = #[.tmp 2] := rfl
theorem kp60 (id : Nat) : KE.keep 60 id = kt tb60 id := rfl
theorem cu60 (args : List AV) (h : Heap) : callL KE 60 args h = bx (goX KE [.code (codeOf Try.f60)] .normal ⟨T.e.ofList 0 args, h, [], KE.keep 60⟩) (atF KE Try.f60) := y_call rfl pf60 rfl args h
theorem ag26 : aggC KE.P 26 = some (some 2) := by kernel_rfl
theorem un26 : (KE.P.underlying 26).isSome = true := by kernel_rfl
theorem ce26 : KE.P.cellsOf 26 = 2 := by kernel_rfl
theorem ln34 : lenT KE.P 34 = some .sl := by kernel_rfl
theorem se34 : slE KE.P 34 = some 1 := by kernel_rfl
theorem zc26 : zeroCells KE.P 26 = some ([.sl true [], .sl true []]) := by kernel_rfl
theorem bl26 : ∀ ps, buildAV KE.P 26 ps = bx (fillB [(0, 1), (1, 1)] [.sl true [], .sl true []] ps) fun r => some (.agg r) := fun ps => bld_s _ _ _ _ _ (by kernel_rfl)
theorem cv43x5 : cvI KE.P 43 5 = some .u8 := by kernel_rfl
theorem ix34 : ixT KE.P 34 = some (none, 1) := by kernel_rfl
theorem un5 : (KE.P.underlying 5).isSome = true := by kernel_rfl
theorem ce5 : KE.P.cellsOf 5 = 1 := by kernel_rfl
theorem fo26x0 : foA KE.P 26 0 = some 0 := by kernel_rfl
theorem ag23 : aggC KE.P 23 = some none := by kernel_rfl
theorem ln23 : lenT KE.P 23 = some .sl := by kernel_rfl
theorem ix23 : ixT KE.P 23 = some (none, 20) := by kernel_rfl
theorem fo46x2 : foA KE.P 46 2 = some 2 := by kernel_rfl
theorem ag2 : aggC KE.P 2 = some none := by kernel_rfl
theorem se23 : slE KE.P 23 = some 20 := by kernel_rfl
theorem un23 : (KE.P.underlying 23).isSome = true := by kernel_rfl
theorem ce23 : KE.P.cellsOf 23 = 1 := by kernel_rfl
theorem fo26x1 : foA KE.P 26 1 = some 1 := by kernel_rfl
theorem ag24 : aggC KE.P 24 = some none := by kernel_rfl
theorem ln24 : lenT KE.P 24 = some .sl := by kernel_rfl
theorem se24 : slE KE.P 24 = some 6 := by kernel_rfl
theorem un24 : (KE.P.underlying 24).isSome = true := by kernel_rfl
theorem ce24 : KE.P.cellsOf 24 = 1 := by kernel_rfl
theorem sz56 : slZ KE.P 56 = some ([.v (.int .i64 0)]) := by kernel_rfl
theorem ag46 : aggC KE.P 46 = some (some 20) := by kernel_rfl
theorem zc46 : zeroCells KE.P 46 = some ([.v (.int .i64 0), .v (.int .i64 0), .v (.int .i64 0), .v (.int .i64 0), .v (.int .i64 0), .v (.int .i64 0), .v (.int .i64 0), .v (.int .i64 0), .v (.int .i64 0), .v (.int .i64 0), .v (.int .i64 0), .v (.int .i64 0), .v (.int .i64 0), .v (.int .i64 0), .v (.int .i64 0), .v (.int .i64 0), .v (.int .i64 0), .v (.int .i64 0), .v (.int .i64 0), .v (.int .i64 0)]) := by kernel_rfl
theorem un46 : (KE.P.underlying 46).isSome = true := by kernel_rfl
theorem ce46 : KE.P.cellsOf 46 = 20 := by kernel_rfl
theorem ix24 : ixT KE.P 24 = some (none, 6) := by kernel_rfl
theorem ag51 : aggC KE.P 51 = some (some 6) := by kernel_rfl
theorem zc51 : zeroCells KE.P 51 = some ([.v (.int .i64 0), .v (.int .i64 0), .v (.int .i64 0), .v (.int .i64 0), .v (.int .i64 0), .v (.bool false)]) := by kernel_rfl
theorem un51 : (KE.P.underlying 51).isSome = true := by kernel_rfl
theorem ce51 : KE.P.cellsOf 51 = 6 := by kernel_rfl
theorem zc53 : zeroCells KE.P 53 = some ([.sl true []]) := by kernel_rfl
theorem fo46x0 : foA KE.P 46 0 = some 0 := by kernel_rfl
theorem ag3 : aggC KE.P 3 = some none := by kernel_rfl
theorem fo46x1 : foA KE.P 46 1 = some 1 := by kernel_rfl
theorem fo46x3 : foA KE.P 46 3 = some 3 := by kernel_rfl
theorem fo46x8 : foA KE.P 46 8 = some 8 := by kernel_rfl
theorem fo46x9 : foA KE.P 46 9 = some 9 := by kernel_rfl
theorem fo46x10 : foA KE.P 46 10 = some 10 := by kernel_rfl
theorem fo46x14 : foA KE.P 46 14 = some 14 := by kernel_rfl
theorem fo46x15 : foA KE.P 46 15 = some 15 := by kernel_rfl
theorem fo46x19 : foA KE.P 46 19 = some 19 := by kernel_rfl
theorem fo46x4 : foA KE.P 46 4 = some 4 := by kernel_rfl
theorem fo46x5 : foA KE.P 46 5 = some 5 := by kernel_rfl
theorem fo46x6 : foA KE.P 46 6 = some 6 := by kernel_rfl
theorem fo46x7 : foA KE.P 46 7 = some 7 := by kernel_rfl
theorem fo46x11 : foA KE.P 46 11 = some 11 := by kernel_rfl
theorem fo46x12 : foA KE.P 46 12 = some 12 := by kernel_rfl
theorem fo46x13 : foA KE.P 46 13 = some 13 := by kernel_rfl
theorem fo46x16 : foA KE.P 46 16 = some 16 := by kernel_rfl
theorem fo46x17 : foA KE.P 46 17 = some 17 := by kernel_rfl
theorem fo46x18 : foA KE.P 46 18 = some 18 := by kernel_rfl
theorem fo51x5 : foA KE.P 51 5 = some 5 := by kernel_rfl
theorem ag4 : aggC KE.P 4 = some none := by kernel_rfl
theorem fo51x1 : foA KE.P 51 1 = some 1 := by kernel_rfl
theorem fo51x0 : foA KE.P 51 0 = some 0 := by kernel_rfl
theorem fo51x3 : foA KE.P 51 3 = some 3 := by kernel_rfl
theorem fo51x4 : foA KE.P 51 4 = some 4 := by kernel_rfl
theorem fo51x2 : foA KE.P 51 2 = some 2 := by kernel_rfl
theorem ag53 : aggC KE.P 53 = some none := by kernel_rfl
theorem cv3x5 : cvI KE.P 3 5 = some .u8 := by kernel_rfl
theorem sz34 : slZ KE.P 34 = some ([.v (.int .u8 0)]) := by kernel_rfl
theorem ap34x34 : apT KE.P [34, 34] = some 1 := by kernel_rfl
theorem ln56 : lenT KE.P 56 = some .sl := by kernel_rfl
theorem ix56 : ixT KE.P 56 = some (none, 1) := by kernel_rfl
theorem cv3x43 : cvI KE.P 3 43 = some .u64 := by kernel_rfl
theorem zc28 : zeroCells KE.P 28 = some ([.v (.int .i64 0)]) := by kernel_rfl
theorem zc3 : zeroCells KE.P 3 = some ([.v (.int .i64 0)]) := by kernel_rfl
theorem un28 : (KE.P.underlying 28).isSome = true := by kernel_rfl
theorem ce28 : KE.P.cellsOf 28 = 1 := by kernel_rfl
theorem un3 : (KE.P.underlying 3).isSome = true := by kernel_rfl
theorem ce3 : KE.P.cellsOf 3 = 1 := by kernel_rfl
theorem bl63 : ∀ ps, buildAV KE.P 63 ps = bx (fillB [(0, 1), (1, 1)] [.sl true [], .v (.int .i64 0)] ps) fun r => some (.agg r) := fun ps => bld_s _ _ _ _ _ (by kernel_rfl)
theorem sz23 : slZ KE.P 23 = some ([.v (.int .i64 0), .v (.int .i64 0), .v (.int .i64 0), .v (.int .i64 0), .v (.int .i64 0), .v (.int .i64 0), .v (.int .i64 0), .v (.int .i64 0), .v (.int .i64 0), .v (.int .i64 0), .v (.int .i64 0), .v (.int .i64 0), .v (.int .i64 0), .v (.int .i64 0), .v (.int .i64 0), .v (.int .i64 0), .v (.int .i64 0), .v (.int .i64 0), .v (.int .i64 0), .v (.int .i64 0)]) := by kernel_rfl
theorem ap23x23 : apT KE.P [23, 23] = some 20 := by kernel_rfl
theorem sz24 : slZ KE.P 24 = some ([.v (.int .i64 0), .v (.int .i64 0), .v (.int .i64 0), .v (.int .i64 0), .v (.int .i64 0), .v (.bool false)]) := by kernel_rfl
theorem ap24x24 : apT KE.P [24, 24] = some 6 := by kernel_rfl
theorem ag28 : aggC KE.P 28 = some none := by kernel_rfl
theorem ag5 : aggC KE.P 5 = some none := by kernel_rfl
theorem cv5x3 : cvI KE.P 5 3 = some .i64 := by kernel_rfl
theorem zc67 : zeroCells KE.P 67 = some ([.v (.int .i64 0), .v (.int .i64 0), .v (.int .i64 0), .v (.int .i64 0), .v (.int .i64 0), .v (.int .i64 0), .v (.int .i64 0), .v (.int .i64 0)]) := by kernel_rfl
theorem un67 : (KE.P.underlying 67).isSome = true := by kernel_rfl
theorem ce67 : KE.P.cellsOf 67 = 8 := by kernel_rfl
theorem ix67 : ixT KE.P 67 = some (some 8, 1) := by kernel_rfl
theorem bl46 : ∀ ps, buildAV KE.P 46 ps = bx (fillB [(0, 1), (1, 1), (2, 1), (3, 1), (4, 1), (5, 1), (6, 1), (7, 1), (8, 1), (9, 1), (10, 1), (11, 1), (12, 1), (13, 1), (14, 1), (15, 1), (16, 1), (17, 1), (18, 1), (19, 1)] [.v (.int .i64 0), .v (.int .i64 0), .v (.int .i64 0), .v (.int .i64 0), .v (.int .i64 0), .v (.int .i64 0), .v (.int .i64 0), .v (.int .i64 0), .v (.int .i64 0), .v (.int .i64 0), .v (.int .i64 0), .v (.int .i64 0), .v (.int .i64 0), .v (.int .i64 0), .v (.int .i64 0), .v (.int .i64 0), .v (.int .i64 0), .v (.int .i64 0), .v (.int .i64 0), .v (.int .i64 0)] ps) fun r => some (.agg r) := fun ps => bld_s _ _ _ _ _ (by kernel_rfl)
theorem cv43x3 : cvI KE.P 43 3 = some .i64 := by kernel_rfl
theorem bl51 : ∀ ps, buildAV KE.P 51 ps = bx (fillB [(0, 1), (1, 1), (2, 1), (3, 1), (4, 1), (5, 1)] [.v (.int .i64 0), .v (.int .i64 0), .v (.int .i64 0), .v (.int .i64 0), .v (.int .i64 0), .v (.bool false)] ps) fun r => some (.agg r) := fun ps => bld_s _ _ _ _ _ (by kernel_rfl)
theorem sz53 : slZ KE.P 53 = some ([.v (.int .u8 0)]) := by kernel_rfl
theorem ap53x53 : apT KE.P [53, 53] = some 1 := by kernel_rfl
theorem un53 : (KE.P.underlying 53).isSome = true := by kernel_rfl
theorem ce53 : KE.P.cellsOf 53 = 1 := by kernel_rfl
theorem cv2x43 : cvI KE.P 2 43 = some .u64 := by kernel_rfl
theorem zc60 : zeroCells KE.P 60 = some ([.v (.int .i64 0), .v (.int .i64 0)]) := by kernel_rfl
theorem un60 : (KE.P.underlying 60).isSome = true := by kernel_rfl
theorem ce60 : KE.P.cellsOf 60 = 2 := by kernel_rfl
theorem fo60x0 : foA KE.P 60 0 = some 0 := by kernel_rfl
theorem fo60x1 : foA KE.P 60 1 = some 1 := by kernel_rfl
theorem un2 : (KE.P.underlying 2).isSome = true := by kernel_rfl
theorem ce2 : KE.P.cellsOf 2 = 1 := by kernel_rfl
theorem fo63x1 : foA KE.P 63 1 = some 1 := by kernel_rfl
theorem bl60 : ∀ ps, buildAV KE.P 60 ps = bx (fillB [(0, 1), (1, 1)] [.v (.int .i64 0), .v (.int .i64 0)] ps) fun r => some (.agg r) := fun ps => bld_s _ _ _ _ _ (by kernel_rfl)
theorem un4 : (KE.P.underlying 4).isSome = true := by kernel_rfl
theorem ce4 : KE.P.cellsOf 4 = 1 := by kernel_rfl
theorem ag67 : aggC KE.P 67 = some (some 8) := by kernel_rfl
theorem cv43x2 : cvI KE.P 43 2 = some .i64 := by kernel_rfl
theorem cv5x43 : cvI KE.P 5 43 = some .u64 := by kernel_rfl
theorem fo63x0 : foA KE.P 63 0 = some 0 := by kernel_rfl
theorem ag34 : aggC KE.P 34 = some none := by kernel_rfl
theorem zc2 : zeroCells KE.P 2 = some ([.v (.int .i64 0)]) := by kernel_rfl
theorem fv91x0 : fieldOff KE.P 91 0 = some (0, 28) := by kernel_rfl
theorem bl91 : ∀ ps, buildAV KE.P 91 ps = bx (fillB [(0, 1)] [.v (.int .i64 0)] ps) fun r => some (.agg r) := fun ps => bld_s _ _ _ _ _ (by kernel_rfl)
theorem cv75x2 : cvI KE.P 75 2 = some .i64 := by kernel_rfl

theorem pnat (f) : KE.nat f = none := rfl
theorem FF : ((((((((type_of% @fr4) ∧ ((type_of% @kp4) ∧ (type_of% @fr5))) ∧ ((type_of% @kp5) ∧ ((type_of% @fr6) ∧ (type_of% @kp6)))) ∧ (((type_of% @fr7) ∧ ((type_of% @kp7) ∧ (type_of% @fr8))) ∧ (((type_of% @kp8) ∧ (type_of% @fr10)) ∧ ((type_of% @kp10) ∧ (type_of% @fr11))))) ∧ ((((type_of% @kp11) ∧ ((type_of% @fr12) ∧ (type_of% @kp12))) ∧ (((type_of% @fr13) ∧ (type_of% @kp13)) ∧ ((type_of% @fr14) ∧ (type_of% @kp14)))) ∧ (((type_of% @fr15) ∧ ((type_of% @kp15) ∧ (type_of% @fr16))) ∧ (((type_of% @kp16) ∧ (type_of% @fr17)) ∧ ((type_of% @kp17) ∧ (type_of% @fr18)))))) ∧ (((((type_of% @kp18) ∧ ((type_of% @fr19) ∧ (type_of% @kp19))) ∧ (((type_of% @fr20) ∧ (type_of% @kp20)) ∧ ((type_of% @fr21) ∧ (type_of% @kp21)))) ∧ (((type_of% @fr22) ∧ ((type_of% @kp22) ∧ (type_of% @fr23))) ∧ (((type_of% @kp23) ∧ (type_of% @fr24)) ∧ ((type_of% @kp24) ∧ (type_of% @fr25))))) ∧ ((((type_of% @kp25) ∧ ((type_of% @fr26) ∧ (type_of% @kp26))) ∧ (((type_of% @fr27) ∧ (type_of% @kp27)) ∧ ((type_of% @fr28) ∧ (type_of% @kp28)))) ∧ (((type_of% @fr29) ∧ ((type_of% @kp29) ∧ (type_of% @fr30))) ∧ (((type_of% @kp30) ∧ (type_of% @fr31)) ∧ ((type_of% @kp31) ∧ (type_of% @fr32))))))) ∧ ((((((type_of% @kp32) ∧ ((type_of% @fr33) ∧ (type_of% @kp33))) ∧ ((type_of% @fr34) ∧ ((type_of% @kp34) ∧ (type_of% @fr35)))) ∧ (((type_of% @kp35) ∧ ((type_of% @fr36) ∧ (type_of% @kp36))) ∧ (((type_of% @fr37) ∧ (type_of% @kp37)) ∧ ((type_of% @fr39) ∧ (type_of% @kp39))))) ∧ ((((type_of% @fr40) ∧ ((type_of% @kp40) ∧ (type_of% @fr41))) ∧ (((type_of% @kp41) ∧ (type_of% @fr42)) ∧ ((type_of% @kp42) ∧ (type_of% @fr43)))) ∧ (((type_of% @kp43) ∧ ((type_of% @fr44) ∧ (type_of% @kp44))) ∧ (((type_of% @fr45) ∧ (type_of% @kp45)) ∧ ((type_of% @fr46) ∧ (type_of% @kp46)))))) ∧ (((((type_of% @fr48) ∧ ((type_of% @kp48) ∧ (type_of% @fr49))) ∧ (((type_of% @kp49) ∧ (type_of% @fr50)) ∧ ((type_of% @kp50) ∧ (type_of% @fr51)))) ∧ (((type_of% @kp51) ∧ ((type_of% @fr53) ∧ (type_of% @kp53))) ∧ (((type_of% @fr54) ∧ (type_of% @kp54)) ∧ ((type_of% @fr55) ∧ (type_of% @kp55))))) ∧ ((((type_of% @fr56) ∧ ((type_of% @kp56) ∧ (type_of% @fr57))) ∧ (((type_of% @kp57) ∧ (type_of% @fr58)) ∧ ((type_of% @kp58) ∧ (type_of% @fr60)))) ∧ (((type_of% @kp60) ∧ ((type_of% @ag26) ∧ (type_of% @un26))) ∧ (((type_of% @ce26) ∧ (type_of% @ln34)) ∧ ((type_of% @se34) ∧ (type_of% @zc26)))))))) ∧ (((((((type_of% @bl26) ∧ ((type_of% @cv43x5) ∧ (type_of% @ix34))) ∧ ((type_of% @un5) ∧ ((type_of% @ce5) ∧ (type_of% @fo26x0)))) ∧ (((type_of% @ag23) ∧ ((type_of% @ln23) ∧ (type_of% @ix23))) ∧ (((type_of% @fo46x2) ∧ (type_of% @ag2)) ∧ ((type_of% @se23) ∧ (type_of% @un23))))) ∧ ((((type_of% @ce23) ∧ ((type_of% @fo26x1) ∧ (type_of% @ag24))) ∧ (((type_of% @ln24) ∧ (type_of% @se24)) ∧ ((type_of% @un24) ∧ (type_of% @ce24)))) ∧ (((type_of% @sz56) ∧ ((type_of% @ag46) ∧ (type_of% @zc46))) ∧ (((type_of% @un46) ∧ (type_of% @ce46)) ∧ ((type_of% @ix24) ∧ (type_of% @ag51)))))) ∧ (((((type_of% @zc51) ∧ ((type_of% @un51) ∧ (type_of% @ce51))) ∧ (((type_of% @zc53) ∧ (type_of% @fo46x0)) ∧ ((type_of% @ag3) ∧ (type_of% @fo46x1)))) ∧ (((type_of% @fo46x3) ∧ ((type_of% @fo46x8) ∧ (type_of% @fo46x9))) ∧ (((type_of% @fo46x10) ∧ (type_of% @fo46x14)) ∧ ((type_of% @fo46x15) ∧ (type_of% @fo46x19))))) ∧ ((((type_of% @fo46x4) ∧ ((type_of% @fo46x5) ∧ (type_of% @fo46x6))) ∧ (((type_of% @fo46x7) ∧ (type_of% @fo46x11)) ∧ ((type_of% @fo46x12) ∧ (type_of% @fo46x13)))) ∧ (((type_of% @fo46x16) ∧ ((type_of% @fo46x17) ∧ (type_of% @fo46x18))) ∧ (((type_of% @fo51x5) ∧ (type_of% @ag4)) ∧ ((type_of% @fo51x1) ∧ (type_of% @fo51x0))))))) ∧ ((((((type_of% @fo51x3) ∧ ((type_of% @fo51x4) ∧ (type_of% @fo51x2))) ∧ (((type_of% @ag53) ∧ (type_of% @cv3x5)) ∧ ((type_of% @sz34) ∧ (type_of% @ap34x34)))) ∧ (((type_of% @ln56) ∧ ((type_of% @ix56) ∧ (type_of% @cv3x43))) ∧ (((type_of% @zc28) ∧ (type_of% @zc3)) ∧ ((type_of% @un28) ∧ (type_of% @ce28))))) ∧ ((((type_of% @un3) ∧ ((type_of% @ce3) ∧ (type_of% @bl63))) ∧ (((type_of% @sz23) ∧ (type_of% @ap23x23)) ∧ ((type_of% @sz24) ∧ (type_of% @ap24x24)))) ∧ (((type_of% @ag28) ∧ ((type_of% @ag5) ∧ (type_of% @cv5x3))) ∧ (((type_of% @zc67) ∧ (type_of% @un67)) ∧ ((type_of% @ce67) ∧ (type_of% @ix67)))))) ∧ (((((type_of% @bl46) ∧ ((type_of% @cv43x3) ∧ (type_of% @bl51))) ∧ (((type_of% @sz53) ∧ (type_of% @ap53x53)) ∧ ((type_of% @un53) ∧ (type_of% @ce53)))) ∧ (((type_of% @cv2x43) ∧ ((type_of% @zc60) ∧ (type_of% @un60))) ∧ (((type_of% @ce60) ∧ (type_of% @fo60x0)) ∧ ((type_of% @fo60x1) ∧ (type_of% @un2))))) ∧ ((((type_of% @ce2) ∧ ((type_of% @fo63x1) ∧ (type_of% @bl60))) ∧ (((type_of% @un4) ∧ (type_of% @ce4)) ∧ ((type_of% @ag67) ∧ (type_of% @cv43x2)))) ∧ (((type_of% @cv5x43) ∧ ((type_of% @fo63x0) ∧ (type_of% @ag34))) ∧ (((type_of% @zc2) ∧ (type_of% @fv91x0)) ∧ ((type_of% @bl91) ∧ (type_of% @cv75x2))))))))) := ⟨⟨⟨⟨⟨⟨⟨@fr4, ⟨@kp4, @fr5⟩⟩, ⟨@kp5, ⟨@fr6, @kp6⟩⟩⟩, ⟨⟨@fr7, ⟨@kp7, @fr8⟩⟩, ⟨⟨@kp8, @fr10⟩, ⟨@kp10, @fr11⟩⟩⟩⟩, ⟨⟨⟨@kp11, ⟨@fr12, @kp12⟩⟩, ⟨⟨@fr13, @kp13⟩, ⟨@fr14, @kp14⟩⟩⟩, ⟨⟨@fr15, ⟨@kp15, @fr16⟩⟩, ⟨⟨@kp16, @fr17⟩, ⟨@kp17, @fr18⟩⟩⟩⟩⟩, ⟨⟨⟨⟨@kp18, ⟨@fr19, @kp19⟩⟩, ⟨⟨@fr20, @kp20⟩, ⟨@fr21, @kp21⟩⟩⟩, ⟨⟨@fr22, ⟨@kp22, @fr23⟩⟩, ⟨⟨@kp23, @fr24⟩, ⟨@kp24, @fr25⟩⟩⟩⟩, ⟨⟨⟨@kp25, ⟨@fr26, @kp26⟩⟩, ⟨⟨@fr27, @kp27⟩, ⟨@fr28, @kp28⟩⟩⟩, ⟨⟨@fr29, ⟨@kp29, @fr30⟩⟩, ⟨⟨@kp30, @fr31⟩, ⟨@kp31, @fr32⟩⟩⟩⟩⟩⟩, ⟨⟨⟨⟨⟨@kp32, ⟨@fr33, @kp33⟩⟩, ⟨@fr34, ⟨@kp34, @fr35⟩⟩⟩, ⟨⟨@kp35, ⟨@fr36, @kp36⟩⟩, ⟨⟨@fr37, @kp37⟩, ⟨@fr39, @kp39⟩⟩⟩⟩, ⟨⟨⟨@fr40, ⟨@kp40, @fr41⟩⟩, ⟨⟨@kp41, @fr42⟩, ⟨@kp42, @fr43⟩⟩⟩, ⟨⟨@kp43, ⟨@fr44, @kp44⟩⟩, ⟨⟨@fr45, @kp45⟩, ⟨@fr46, @kp46⟩⟩⟩⟩⟩, ⟨⟨⟨⟨@fr48, ⟨@kp48, @fr49⟩⟩, ⟨⟨@kp49, @fr50⟩, ⟨@kp50, @fr51⟩⟩⟩, ⟨⟨@kp51, ⟨@fr53, @kp53⟩⟩, ⟨⟨@fr54, @kp54⟩, ⟨@fr55, @kp55⟩⟩⟩⟩, ⟨⟨⟨@fr56, ⟨@kp56, @fr57⟩⟩, ⟨⟨@kp57, @fr58⟩, ⟨@kp58, @fr60⟩⟩⟩, ⟨⟨@kp60, ⟨@ag26, @un26⟩⟩, ⟨⟨@ce26, @ln34⟩, ⟨@se34, @zc26⟩⟩⟩⟩⟩⟩⟩, ⟨⟨⟨⟨⟨⟨@bl26, ⟨@cv43x5, @ix34⟩⟩, ⟨@un5, ⟨@ce5, @fo26x0⟩⟩⟩, ⟨⟨@ag23, ⟨@ln23, @ix23⟩⟩, ⟨⟨@fo46x2, @ag2⟩, ⟨@se23, @un23⟩⟩⟩⟩, ⟨⟨⟨@ce23, ⟨@fo26x1, @ag24⟩⟩, ⟨⟨@ln24, @se24⟩, ⟨@un24, @ce24⟩⟩⟩, ⟨⟨@sz56, ⟨@ag46, @zc46⟩⟩, ⟨⟨@un46, @ce46⟩, ⟨@ix24, @ag51⟩⟩⟩⟩⟩, ⟨⟨⟨⟨@zc51, ⟨@un51, @ce51⟩⟩, ⟨⟨@zc53, @fo46x0⟩, ⟨@ag3, @fo46x1⟩⟩⟩, ⟨⟨@fo46x3, ⟨@fo46x8, @fo46x9⟩⟩, ⟨⟨@fo46x10, @fo46x14⟩, ⟨@fo46x15, @fo46x19⟩⟩⟩⟩, ⟨⟨⟨@fo46x4, ⟨@fo46x5, @fo46x6⟩⟩, ⟨⟨@fo46x7, @fo46x11⟩, ⟨@fo46x12, @fo46x13⟩⟩⟩, ⟨⟨@fo46x16, ⟨@fo46x17, @fo46x18⟩⟩, ⟨⟨@fo51x5, @ag4⟩, ⟨@fo51x1, @fo51x0⟩⟩⟩⟩⟩⟩, ⟨⟨⟨⟨⟨@fo51x3, ⟨@fo51x4, @fo51x2⟩⟩, ⟨⟨@ag53, @cv3x5⟩, ⟨@sz34, @ap34x34⟩⟩⟩, ⟨⟨@ln56, ⟨@ix56, @cv3x43⟩⟩, ⟨⟨@zc28, @zc3⟩, ⟨@un28, @ce28⟩⟩⟩⟩, ⟨⟨⟨@un3, ⟨@ce3, @bl63⟩⟩, ⟨⟨@sz23, @ap23x23⟩, ⟨@sz24, @ap24x24⟩⟩⟩, ⟨⟨@ag28, ⟨@ag5, @cv5x3⟩⟩, ⟨⟨@zc67, @un67⟩, ⟨@ce67, @ix67⟩⟩⟩⟩⟩, ⟨⟨⟨⟨@bl46, ⟨@cv43x3, @bl51⟩⟩, ⟨⟨@sz53, @ap53x53⟩, ⟨@un53, @ce53⟩⟩⟩, ⟨⟨@cv2x43, ⟨@zc60, @un60⟩⟩, ⟨⟨@ce60, @fo60x0⟩, ⟨@fo60x1, @un2⟩⟩⟩⟩, ⟨⟨⟨@ce2, ⟨@fo63x1, @bl60⟩⟩, ⟨⟨@un4, @ce4⟩, ⟨@ag67, @cv43x2⟩⟩⟩, ⟨⟨@cv5x43, ⟨@fo63x0, @ag34⟩⟩, ⟨⟨@zc2, @fv91x0⟩, ⟨@bl91, @cv75x2⟩⟩⟩⟩⟩⟩⟩⟩
end Go.AM
