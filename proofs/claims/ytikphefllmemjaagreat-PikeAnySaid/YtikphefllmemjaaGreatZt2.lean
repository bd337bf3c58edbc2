import Derived.Test.YtikphefllmemjaaGreatZt1
import Derived.Test.YtikphefllmemjaaGreatChecked
import Derived.KernelRfl
/-
The table is the program: function by function.
-/
namespace Go.Am.Zt
open Go Go.Am Go.Proofs
set_option maxRecDepth 100000
theorem o5 : cFn Tryz.prog Tryz.f5 = some f5 := by kernel_rfl
theorem o8 : cFn Tryz.prog Tryz.f8 = some f8 := by kernel_rfl
theorem o9 : cFn Tryz.prog Tryz.f9 = some f9 := by kernel_rfl
theorem o10 : cFn Tryz.prog Tryz.f10 = some f10 := by kernel_rfl
theorem o11 : cFn Tryz.prog Tryz.f11 = some f11 := by kernel_rfl
theorem o12 : cFn Tryz.prog Tryz.f12 = some f12 := by kernel_rfl
theorem o18 : cFn Tryz.prog Tryz.f18 = some f18 := by kernel_rfl
theorem o19 : cFn Tryz.prog Tryz.f19 = some f19 := by kernel_rfl
theorem o20 : cFn Tryz.prog Tryz.f20 = some f20 := by kernel_rfl
theorem o21 : cFn Tryz.prog Tryz.f21 = some f21 := by kernel_rfl
theorem o22 : cFn Tryz.prog Tryz.f22 = some f22 := by kernel_rfl
theorem o23 : cFn Tryz.prog Tryz.f23 = some f23 := by kernel_rfl
theorem o24 : cFn Tryz.prog Tryz.f24 = some f24 := by kernel_rfl
theorem o25 : cFn Tryz.prog Tryz.f25 = some f25 := by kernel_rfl
theorem o30 : cFn Tryz.prog Tryz.f30 = some f30 := by kernel_rfl
theorem o31 : cFn Tryz.prog Tryz.f31 = some f31 := by kernel_rfl
theorem o32 : cFn Tryz.prog Tryz.f32 = some f32 := by kernel_rfl
theorem o33 : cFn Tryz.prog Tryz.f33 = some f33 := by kernel_rfl
theorem o34 : cFn Tryz.prog Tryz.f34 = some f34 := by kernel_rfl
theorem o35 : cFn Tryz.prog Tryz.f35 = some f35 := by kernel_rfl
theorem o36 : cFn Tryz.prog Tryz.f36 = some f36 := by kernel_rfl
theorem o37 : cFn Tryz.prog Tryz.f37 = some f37 := by kernel_rfl
theorem o39 : cFn Tryz.prog Tryz.f39 = some f39 := by kernel_rfl
theorem o40 : cFn Tryz.prog Tryz.f40 = some f40 := by kernel_rfl
theorem o41 : cFn Tryz.prog Tryz.f41 = some f41 := by kernel_rfl
theorem o44 : cFn Tryz.prog Tryz.f44 = some f44 := by kernel_rfl
theorem o45 : cFn Tryz.prog Tryz.f45 = some f45 := by kernel_rfl
theorem o46 : cFn Tryz.prog Tryz.f46 = some f46 := by kernel_rfl
theorem o47 : cFn Tryz.prog Tryz.f47 = some f47 := by kernel_rfl
theorem o48 : cFn Tryz.prog Tryz.f48 = some f48 := by kernel_rfl
theorem o49 : cFn Tryz.prog Tryz.f49 = some f49 := by kernel_rfl
theorem o51 : cFn Tryz.prog Tryz.f51 = some f51 := by kernel_rfl
theorem o50 : cFn Tryz.prog Tryz.f50 = some f50 := by kernel_rfl
theorem o52 : cFn Tryz.prog Tryz.f52 = some f52 := by kernel_rfl
theorem o53 : cFn Tryz.prog Tryz.f53 = some f53 := by kernel_rfl
theorem o54 : cFn Tryz.prog Tryz.f54 = some f54 := by kernel_rfl
theorem o38 : cFn Tryz.prog Tryz.f38 = some f38 := by kernel_rfl
theorem o57 : cFn Tryz.prog Tryz.f57 = some f57 := by kernel_rfl
theorem o58 : cFn Tryz.prog Tryz.f58 = some f58 := by kernel_rfl
theorem o59 : cFn Tryz.prog Tryz.f59 = some f59 := by kernel_rfl
theorem o60 : cFn Tryz.prog Tryz.f60 = some f60 := by kernel_rfl
theorem o61 : cFn Tryz.prog Tryz.f61 = some f61 := by kernel_rfl
theorem o62 : cFn Tryz.prog Tryz.f62 = some f62 := by kernel_rfl
theorem o63 : cFn Tryz.prog Tryz.f63 = some f63 := by kernel_rfl
theorem o65 : cFn Tryz.prog Tryz.f65 = some f65 := by kernel_rfl
theorem o64 : cFn Tryz.prog Tryz.f64 = some f64 := by kernel_rfl
theorem o66 : cFn Tryz.prog Tryz.f66 = some f66 := by kernel_rfl
theorem o68 : cFn Tryz.prog Tryz.f68 = some f68 := by kernel_rfl
theorem o67 : cFn Tryz.prog Tryz.f67 = some f67 := by kernel_rfl
theorem o69 : cFn Tryz.prog Tryz.f69 = some f69 := by kernel_rfl
theorem o70 : cFn Tryz.prog Tryz.f70 = some f70 := by kernel_rfl
theorem o71 : cFn Tryz.prog Tryz.f71 = some f71 := by kernel_rfl
theorem o55 : cFn Tryz.prog Tryz.f55 = some f55 := by kernel_rfl
theorem o72 : cFn Tryz.prog Tryz.f72 = some f72 := by kernel_rfl
theorem o73 : cFn Tryz.prog Tryz.f73 = some f73 := by kernel_rfl
theorem o74 : cFn Tryz.prog Tryz.f74 = some f74 := by kernel_rfl
theorem o75 : cFn Tryz.prog Tryz.f75 = some f75 := by kernel_rfl
theorem o76 : cFn Tryz.prog Tryz.f76 = some f76 := by kernel_rfl
theorem o77 : cFn Tryz.prog Tryz.f77 = some f77 := by kernel_rfl
theorem o78 : cFn Tryz.prog Tryz.f78 = some f78 := by kernel_rfl
theorem o79 : cFn Tryz.prog Tryz.f79 = some f79 := by kernel_rfl
theorem o80 : cFn Tryz.prog Tryz.f80 = some f80 := by kernel_rfl
theorem o81 : cFn Tryz.prog Tryz.f81 = some f81 := by kernel_rfl
theorem o82 : cFn Tryz.prog Tryz.f82 = some f82 := by kernel_rfl
theorem o84 : cFn Tryz.prog Tryz.f84 = some f84 := by kernel_rfl
theorem o83 : cFn Tryz.prog Tryz.f83 = some f83 := by kernel_rfl
theorem o87 : cFn Tryz.prog Tryz.f87 = some f87 := by kernel_rfl
theorem o86 : cFn Tryz.prog Tryz.f86 = some f86 := by kernel_rfl
theorem o85 : cFn Tryz.prog Tryz.f85 = some f85 := by kernel_rfl
theorem o88 : cFn Tryz.prog Tryz.f88 = some f88 := by kernel_rfl
theorem o89 : cFn Tryz.prog Tryz.f89 = some f89 := by kernel_rfl
theorem o90 : cFn Tryz.prog Tryz.f90 = some f90 := by kernel_rfl
theorem o91 : cFn Tryz.prog Tryz.f91 = some f91 := by kernel_rfl
theorem o92 : cFn Tryz.prog Tryz.f92 = some f92 := by kernel_rfl
theorem o93 : cFn Tryz.prog Tryz.f93 = some f93 := by kernel_rfl
theorem o94 : cFn Tryz.prog Tryz.f94 = some f94 := by kernel_rfl
theorem o95 : cFn Tryz.prog Tryz.f95 = some f95 := by kernel_rfl
theorem o96 : cFn Tryz.prog Tryz.f96 = some f96 := by kernel_rfl
theorem o97 : cFn Tryz.prog Tryz.f97 = some f97 := by kernel_rfl
theorem o98 : cFn Tryz.prog Tryz.f98 = some f98 := by kernel_rfl
theorem o99 : cFn Tryz.prog Tryz.f99 = some f99 := by kernel_rfl
theorem o102 : cFn Tryz.prog Tryz.f102 = some f102 := by kernel_rfl
theorem o101 : cFn Tryz.prog Tryz.f101 = some f101 := by kernel_rfl
theorem o100 : cFn Tryz.prog Tryz.f100 = some f100 := by kernel_rfl
theorem o106 : cFn Tryz.prog Tryz.f106 = some f106 := by kernel_rfl
theorem o107 : cFn Tryz.prog Tryz.f107 = some f107 := by kernel_rfl
theorem o108 : cFn Tryz.prog Tryz.f108 = some f108 := by kernel_rfl
theorem o109 : cFn Tryz.prog Tryz.f109 = some f109 := by kernel_rfl
theorem o110 : cFn Tryz.prog Tryz.f110 = some f110 := by kernel_rfl
theorem o111 : cFn Tryz.prog Tryz.f111 = some f111 := by kernel_rfl
theorem o112 : cFn Tryz.prog Tryz.f112 = some f112 := by kernel_rfl
theorem o113 : cFn Tryz.prog Tryz.f113 = some f113 := by kernel_rfl
theorem o114 : cFn Tryz.prog Tryz.f114 = some f114 := by kernel_rfl
theorem o115 : cFn Tryz.prog Tryz.f115 = some f115 := by kernel_rfl
theorem o125 : cFn Tryz.prog Tryz.f125 = some f125 := by kernel_rfl
theorem o126 : cFn Tryz.prog Tryz.f126 = some f126 := by kernel_rfl
theorem o127 : cFn Tryz.prog Tryz.f127 = some f127 := by kernel_rfl
theorem o128 : cFn Tryz.prog Tryz.f128 = some f128 := by kernel_rfl
theorem o129 : cFn Tryz.prog Tryz.f129 = some f129 := by kernel_rfl
theorem o130 : cFn Tryz.prog Tryz.f130 = some f130 := by kernel_rfl
theorem o131 : cFn Tryz.prog Tryz.f131 = some f131 := by kernel_rfl
theorem o132 : cFn Tryz.prog Tryz.f132 = some f132 := by kernel_rfl
theorem o133 : cFn Tryz.prog Tryz.f133 = some f133 := by kernel_rfl
theorem o134 : cFn Tryz.prog Tryz.f134 = some f134 := by kernel_rfl
theorem o135 : cFn Tryz.prog Tryz.f135 = some f135 := by kernel_rfl
theorem o136 : cFn Tryz.prog Tryz.f136 = some f136 := by kernel_rfl
theorem o137 : cFn Tryz.prog Tryz.f137 = some f137 := by kernel_rfl
theorem o138 : cFn Tryz.prog Tryz.f138 = some f138 := by kernel_rfl
theorem o139 : cFn Tryz.prog Tryz.f139 = some f139 := by kernel_rfl
theorem o141 : cFn Tryz.prog Tryz.f141 = some f141 := by kernel_rfl
theorem o142 : cFn Tryz.prog Tryz.f142 = some f142 := by kernel_rfl
theorem o143 : cFn Tryz.prog Tryz.f143 = some f143 := by kernel_rfl
theorem o144 : cFn Tryz.prog Tryz.f144 = some f144 := by kernel_rfl
theorem o145 : cFn Tryz.prog Tryz.f145 = some f145 := by kernel_rfl
theorem o146 : cFn Tryz.prog Tryz.f146 = some f146 := by kernel_rfl
theorem e29 : cDf Tryz.prog Tryz.f29 = some d29 := by kernel_rfl
theorem fns_ok : FT.All (fun f d => ∃ pf, Tryz.prog.funcs[f]? = some pf ∧ cFn Tryz.prog pf = some d) fnT 1 0 := (.nd _ _ (fun a h => by cases h) (.nd _ _ (fun a h => by cases h) (.nd _ _ (fun a h => by cases h) (.nd _ _ (fun a h => by cases h) (.nd _ _ (fun a h => by cases h) (.nd _ _ (fun a h => by cases h; exact ⟨_, Tryz.func31, o31⟩) (.nd _ _ (fun a h => by cases h; exact ⟨_, Tryz.func63, o63⟩) (.nd _ _ (fun a h => by cases h; exact ⟨_, Tryz.func127, o127⟩) (.lf _ _) (.lf _ _)) (.lf _ _)) (.nd _ _ (fun a h => by cases h; exact ⟨_, Tryz.func95, o95⟩) (.lf _ _) (.lf _ _))) (.nd _ _ (fun a h => by cases h; exact ⟨_, Tryz.func47, o47⟩) (.nd _ _ (fun a h => by cases h; exact ⟨_, Tryz.func79, o79⟩) (.nd _ _ (fun a h => by cases h; exact ⟨_, Tryz.func143, o143⟩) (.lf _ _) (.lf _ _)) (.lf _ _)) (.nd _ _ (fun a h => by cases h; exact ⟨_, Tryz.func111, o111⟩) (.lf _ _) (.lf _ _)))) (.nd _ _ (fun a h => by cases h; exact ⟨_, Tryz.func23, o23⟩) (.nd _ _ (fun a h => by cases h; exact ⟨_, Tryz.func39, o39⟩) (.nd _ _ (fun a h => by cases h; exact ⟨_, Tryz.func71, o71⟩) (.nd _ _ (fun a h => by cases h; exact ⟨_, Tryz.func135, o135⟩) (.lf _ _) (.lf _ _)) (.lf _ _)) (.lf _ _)) (.nd _ _ (fun a h => by cases h; exact ⟨_, Tryz.func55, o55⟩) (.nd _ _ (fun a h => by cases h; exact ⟨_, Tryz.func87, o87⟩) (.lf _ _) (.lf _ _)) (.lf _ _)))) (.nd _ _ (fun a h => by cases h; exact ⟨_, Tryz.func11, o11⟩) (.nd _ _ (fun a h => by cases h; exact ⟨_, Tryz.func19, o19⟩) (.nd _ _ (fun a h => by cases h; exact ⟨_, Tryz.func35, o35⟩) (.nd _ _ (fun a h => by cases h; exact ⟨_, Tryz.func67, o67⟩) (.nd _ _ (fun a h => by cases h; exact ⟨_, Tryz.func131, o131⟩) (.lf _ _) (.lf _ _)) (.lf _ _)) (.nd _ _ (fun a h => by cases h; exact ⟨_, Tryz.func99, o99⟩) (.lf _ _) (.lf _ _))) (.nd _ _ (fun a h => by cases h; exact ⟨_, Tryz.func51, o51⟩) (.nd _ _ (fun a h => by cases h; exact ⟨_, Tryz.func83, o83⟩) (.lf _ _) (.lf _ _)) (.nd _ _ (fun a h => by cases h; exact ⟨_, Tryz.func115, o115⟩) (.lf _ _) (.lf _ _)))) (.nd _ _ (fun a h => by cases h) (.nd _ _ (fun a h => by cases h) (.nd _ _ (fun a h => by cases h; exact ⟨_, Tryz.func75, o75⟩) (.nd _ _ (fun a h => by cases h; exact ⟨_, Tryz.func139, o139⟩) (.lf _ _) (.lf _ _)) (.lf _ _)) (.nd _ _ (fun a h => by cases h; exact ⟨_, Tryz.func107, o107⟩) (.lf _ _) (.lf _ _))) (.nd _ _ (fun a h => by cases h; exact ⟨_, Tryz.func59, o59⟩) (.nd _ _ (fun a h => by cases h; exact ⟨_, Tryz.func91, o91⟩) (.lf _ _) (.lf _ _)) (.lf _ _))))) (.nd _ _ (fun a h => by cases h; exact ⟨_, Tryz.func5, o5⟩) (.nd _ _ (fun a h => by cases h; exact ⟨_, Tryz.func9, o9⟩) (.nd _ _ (fun a h => by cases h) (.nd _ _ (fun a h => by cases h; exact ⟨_, Tryz.func33, o33⟩) (.nd _ _ (fun a h => by cases h; exact ⟨_, Tryz.func65, o65⟩) (.nd _ _ (fun a h => by cases h; exact ⟨_, Tryz.func129, o129⟩) (.lf _ _) (.lf _ _)) (.lf _ _)) (.nd _ _ (fun a h => by cases h; exact ⟨_, Tryz.func97, o97⟩) (.lf _ _) (.lf _ _))) (.nd _ _ (fun a h => by cases h; exact ⟨_, Tryz.func49, o49⟩) (.nd _ _ (fun a h => by cases h; exact ⟨_, Tryz.func81, o81⟩) (.nd _ _ (fun a h => by cases h; exact ⟨_, Tryz.func145, o145⟩) (.lf _ _) (.lf _ _)) (.lf _ _)) (.nd _ _ (fun a h => by cases h; exact ⟨_, Tryz.func113, o113⟩) (.lf _ _) (.lf _ _)))) (.nd _ _ (fun a h => by cases h; exact ⟨_, Tryz.func25, o25⟩) (.nd _ _ (fun a h => by cases h; exact ⟨_, Tryz.func41, o41⟩) (.nd _ _ (fun a h => by cases h; exact ⟨_, Tryz.func73, o73⟩) (.nd _ _ (fun a h => by cases h; exact ⟨_, Tryz.func137, o137⟩) (.lf _ _) (.lf _ _)) (.lf _ _)) (.lf _ _)) (.nd _ _ (fun a h => by cases h; exact ⟨_, Tryz.func57, o57⟩) (.nd _ _ (fun a h => by cases h; exact ⟨_, Tryz.func89, o89⟩) (.lf _ _) (.lf _ _)) (.lf _ _)))) (.nd _ _ (fun a h => by cases h) (.nd _ _ (fun a h => by cases h; exact ⟨_, Tryz.func21, o21⟩) (.nd _ _ (fun a h => by cases h; exact ⟨_, Tryz.func37, o37⟩) (.nd _ _ (fun a h => by cases h; exact ⟨_, Tryz.func69, o69⟩) (.nd _ _ (fun a h => by cases h; exact ⟨_, Tryz.func133, o133⟩) (.lf _ _) (.lf _ _)) (.lf _ _)) (.nd _ _ (fun a h => by cases h; exact ⟨_, Tryz.func101, o101⟩) (.lf _ _) (.lf _ _))) (.nd _ _ (fun a h => by cases h; exact ⟨_, Tryz.func53, o53⟩) (.nd _ _ (fun a h => by cases h; exact ⟨_, Tryz.func85, o85⟩) (.lf _ _) (.lf _ _)) (.lf _ _))) (.nd _ _ (fun a h => by cases h) (.nd _ _ (fun a h => by cases h; exact ⟨_, Tryz.func45, o45⟩) (.nd _ _ (fun a h => by cases h; exact ⟨_, Tryz.func77, o77⟩) (.nd _ _ (fun a h => by cases h; exact ⟨_, Tryz.func141, o141⟩) (.lf _ _) (.lf _ _)) (.lf _ _)) (.nd _ _ (fun a h => by cases h; exact ⟨_, Tryz.func109, o109⟩) (.lf _ _) (.lf _ _))) (.nd _ _ (fun a h => by cases h; exact ⟨_, Tryz.func61, o61⟩) (.nd _ _ (fun a h => by cases h; exact ⟨_, Tryz.func93, o93⟩) (.lf _ _) (.lf _ _)) (.nd _ _ (fun a h => by cases h; exact ⟨_, Tryz.func125, o125⟩) (.lf _ _) (.lf _ _))))))) (.nd _ _ (fun a h => by cases h) (.nd _ _ (fun a h => by cases h) (.nd _ _ (fun a h => by cases h; exact ⟨_, Tryz.func8, o8⟩) (.nd _ _ (fun a h => by cases h) (.nd _ _ (fun a h => by cases h; exact ⟨_, Tryz.func32, o32⟩) (.nd _ _ (fun a h => by cases h; exact ⟨_, Tryz.func64, o64⟩) (.nd _ _ (fun a h => by cases h; exact ⟨_, Tryz.func128, o128⟩) (.lf _ _) (.lf _ _)) (.lf _ _)) (.nd _ _ (fun a h => by cases h; exact ⟨_, Tryz.func96, o96⟩) (.lf _ _) (.lf _ _))) (.nd _ _ (fun a h => by cases h; exact ⟨_, Tryz.func48, o48⟩) (.nd _ _ (fun a h => by cases h; exact ⟨_, Tryz.func80, o80⟩) (.nd _ _ (fun a h => by cases h; exact ⟨_, Tryz.func144, o144⟩) (.lf _ _) (.lf _ _)) (.lf _ _)) (.nd _ _ (fun a h => by cases h; exact ⟨_, Tryz.func112, o112⟩) (.lf _ _) (.lf _ _)))) (.nd _ _ (fun a h => by cases h; exact ⟨_, Tryz.func24, o24⟩) (.nd _ _ (fun a h => by cases h; exact ⟨_, Tryz.func40, o40⟩) (.nd _ _ (fun a h => by cases h; exact ⟨_, Tryz.func72, o72⟩) (.nd _ _ (fun a h => by cases h; exact ⟨_, Tryz.func136, o136⟩) (.lf _ _) (.lf _ _)) (.lf _ _)) (.lf _ _)) (.nd _ _ (fun a h => by cases h) (.nd _ _ (fun a h => by cases h; exact ⟨_, Tryz.func88, o88⟩) (.lf _ _) (.lf _ _)) (.lf _ _)))) (.nd _ _ (fun a h => by cases h; exact ⟨_, Tryz.func12, o12⟩) (.nd _ _ (fun a h => by cases h; exact ⟨_, Tryz.func20, o20⟩) (.nd _ _ (fun a h => by cases h; exact ⟨_, Tryz.func36, o36⟩) (.nd _ _ (fun a h => by cases h; exact ⟨_, Tryz.func68, o68⟩) (.nd _ _ (fun a h => by cases h; exact ⟨_, Tryz.func132, o132⟩) (.lf _ _) (.lf _ _)) (.lf _ _)) (.nd _ _ (fun a h => by cases h; exact ⟨_, Tryz.func100, o100⟩) (.lf _ _) (.lf _ _))) (.nd _ _ (fun a h => by cases h; exact ⟨_, Tryz.func52, o52⟩) (.nd _ _ (fun a h => by cases h; exact ⟨_, Tryz.func84, o84⟩) (.lf _ _) (.lf _ _)) (.lf _ _))) (.nd _ _ (fun a h => by cases h) (.nd _ _ (fun a h => by cases h; exact ⟨_, Tryz.func44, o44⟩) (.nd _ _ (fun a h => by cases h; exact ⟨_, Tryz.func76, o76⟩) (.lf _ _) (.lf _ _)) (.nd _ _ (fun a h => by cases h; exact ⟨_, Tryz.func108, o108⟩) (.lf _ _) (.lf _ _))) (.nd _ _ (fun a h => by cases h; exact ⟨_, Tryz.func60, o60⟩) (.nd _ _ (fun a h => by cases h; exact ⟨_, Tryz.func92, o92⟩) (.lf _ _) (.lf _ _)) (.lf _ _))))) (.nd _ _ (fun a h => by cases h) (.nd _ _ (fun a h => by cases h; exact ⟨_, Tryz.func10, o10⟩) (.nd _ _ (fun a h => by cases h; exact ⟨_, Tryz.func18, o18⟩) (.nd _ _ (fun a h => by cases h; exact ⟨_, Tryz.func34, o34⟩) (.nd _ _ (fun a h => by cases h; exact ⟨_, Tryz.func66, o66⟩) (.nd _ _ (fun a h => by cases h; exact ⟨_, Tryz.func130, o130⟩) (.lf _ _) (.lf _ _)) (.lf _ _)) (.nd _ _ (fun a h => by cases h; exact ⟨_, Tryz.func98, o98⟩) (.lf _ _) (.lf _ _))) (.nd _ _ (fun a h => by cases h; exact ⟨_, Tryz.func50, o50⟩) (.nd _ _ (fun a h => by cases h; exact ⟨_, Tryz.func82, o82⟩) (.nd _ _ (fun a h => by cases h; exact ⟨_, Tryz.func146, o146⟩) (.lf _ _) (.lf _ _)) (.lf _ _)) (.nd _ _ (fun a h => by cases h; exact ⟨_, Tryz.func114, o114⟩) (.lf _ _) (.lf _ _)))) (.nd _ _ (fun a h => by cases h) (.nd _ _ (fun a h => by cases h) (.nd _ _ (fun a h => by cases h; exact ⟨_, Tryz.func74, o74⟩) (.nd _ _ (fun a h => by cases h; exact ⟨_, Tryz.func138, o138⟩) (.lf _ _) (.lf _ _)) (.lf _ _)) (.nd _ _ (fun a h => by cases h; exact ⟨_, Tryz.func106, o106⟩) (.lf _ _) (.lf _ _))) (.nd _ _ (fun a h => by cases h; exact ⟨_, Tryz.func58, o58⟩) (.nd _ _ (fun a h => by cases h; exact ⟨_, Tryz.func90, o90⟩) (.lf _ _) (.lf _ _)) (.lf _ _)))) (.nd _ _ (fun a h => by cases h) (.nd _ _ (fun a h => by cases h; exact ⟨_, Tryz.func22, o22⟩) (.nd _ _ (fun a h => by cases h; exact ⟨_, Tryz.func38, o38⟩) (.nd _ _ (fun a h => by cases h; exact ⟨_, Tryz.func70, o70⟩) (.nd _ _ (fun a h => by cases h; exact ⟨_, Tryz.func134, o134⟩) (.lf _ _) (.lf _ _)) (.lf _ _)) (.nd _ _ (fun a h => by cases h; exact ⟨_, Tryz.func102, o102⟩) (.lf _ _) (.lf _ _))) (.nd _ _ (fun a h => by cases h; exact ⟨_, Tryz.func54, o54⟩) (.nd _ _ (fun a h => by cases h; exact ⟨_, Tryz.func86, o86⟩) (.lf _ _) (.lf _ _)) (.lf _ _))) (.nd _ _ (fun a h => by cases h; exact ⟨_, Tryz.func30, o30⟩) (.nd _ _ (fun a h => by cases h; exact ⟨_, Tryz.func46, o46⟩) (.nd _ _ (fun a h => by cases h; exact ⟨_, Tryz.func78, o78⟩) (.nd _ _ (fun a h => by cases h; exact ⟨_, Tryz.func142, o142⟩) (.lf _ _) (.lf _ _)) (.lf _ _)) (.nd _ _ (fun a h => by cases h; exact ⟨_, Tryz.func110, o110⟩) (.lf _ _) (.lf _ _))) (.nd _ _ (fun a h => by cases h; exact ⟨_, Tryz.func62, o62⟩) (.nd _ _ (fun a h => by cases h; exact ⟨_, Tryz.func94, o94⟩) (.lf _ _) (.lf _ _)) (.nd _ _ (fun a h => by cases h; exact ⟨_, Tryz.func126, o126⟩) (.lf _ _) (.lf _ _))))))))
theorem dfs_ok : FT.All (fun f d => ∃ pf, Tryz.prog.funcs[f]? = some pf ∧ cDf Tryz.prog pf = some d) dfT 1 0 := (.nd _ _ (fun a h => by cases h) (.nd _ _ (fun a h => by cases h) (.lf _ _) (.nd _ _ (fun a h => by cases h) (.lf _ _) (.nd _ _ (fun a h => by cases h) (.lf _ _) (.nd _ _ (fun a h => by cases h; exact ⟨_, Tryz.func29, e29⟩) (.lf _ _) (.lf _ _))))) (.lf _ _))
end Go.Am.Zt
