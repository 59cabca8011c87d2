/- What closed calls of this program answer (text 23). No condition. Printed by mkaw.py. -/
import Derived.Test.YtnglahcjemgcaaaGreatDoorK15
namespace Go.Proofs.YtnglahcjemgcaaaGreatDoor
open Go.RowKit

theorem axk194_ok : cutOk axk194 = true := by kernel_rfl
set_option maxRecDepth 1000000 in
theorem axk194_run : chkOut axk194 (run (envP Tryz.prog axk194_h) 100000 axk194.f axk194.args (addAll axk194.pre .nil) axk194.n) = true := by kernel_rfl
theorem axk195_ok : cutOk axk195 = true := by kernel_rfl
set_option maxRecDepth 1000000 in
theorem axk195_run : chkOut axk195 (run (envP Tryz.prog axk195_h) 100000 axk195.f axk195.args (addAll axk195.pre .nil) axk195.n) = true := by kernel_rfl
theorem axk196_ok : cutOk axk196 = true := by kernel_rfl
set_option maxRecDepth 1000000 in
theorem axk196_run : chkOut axk196 (run (envP Tryz.prog axk196_h) 100000 axk196.f axk196.args (addAll axk196.pre .nil) axk196.n) = true := by kernel_rfl
theorem axk197_ok : cutOk axk197 = true := by kernel_rfl
set_option maxRecDepth 1000000 in
theorem axk197_run : chkOut axk197 (run (envP Tryz.prog axk197_h) 100000 axk197.f axk197.args (addAll axk197.pre .nil) axk197.n) = true := by kernel_rfl
theorem axk198_ok : cutOk axk198 = true := by kernel_rfl
set_option maxRecDepth 1000000 in
theorem axk198_run : chkOut axk198 (run (envP Tryz.prog axk198_h) 100000 axk198.f axk198.args (addAll axk198.pre .nil) axk198.n) = true := by kernel_rfl
theorem axk199_ok : cutOk axk199 = true := by kernel_rfl
set_option maxRecDepth 1000000 in
theorem axk199_run : chkOut axk199 (run (envP Tryz.prog axk199_h) 100000 axk199.f axk199.args (addAll axk199.pre .nil) axk199.n) = true := by kernel_rfl
theorem axk200_ok : cutOk axk200 = true := by kernel_rfl
set_option maxRecDepth 1000000 in
theorem axk200_run : chkOut axk200 (run (envP Tryz.prog axk200_h) 100000 axk200.f axk200.args (addAll axk200.pre .nil) axk200.n) = true := by kernel_rfl
theorem axk201_ok : cutOk axk201 = true := by kernel_rfl
set_option maxRecDepth 1000000 in
theorem axk201_run : chkOut axk201 (run (envP Tryz.prog axk201_h) 100000 axk201.f axk201.args (addAll axk201.pre .nil) axk201.n) = true := by kernel_rfl
theorem axk202_ok : cutOk axk202 = true := by kernel_rfl
set_option maxRecDepth 1000000 in
theorem axk202_run : chkOut axk202 (run (envP Tryz.prog axk202_h) 100000 axk202.f axk202.args (addAll axk202.pre .nil) axk202.n) = true := by kernel_rfl
theorem axk203_ok : cutOk axk203 = true := by kernel_rfl
set_option maxRecDepth 1000000 in
theorem axk203_run : chkOut axk203 (run (envP Tryz.prog axk203_h) 100000 axk203.f axk203.args (addAll axk203.pre .nil) axk203.n) = true := by kernel_rfl
theorem axk204_ok : cutOk axk204 = true := by kernel_rfl
set_option maxRecDepth 1000000 in
theorem axk204_run : chkOut axk204 (run (envP Tryz.prog axk204_h) 100000 axk204.f axk204.args (addAll axk204.pre .nil) axk204.n) = true := by kernel_rfl
theorem axk205_ok : cutOk axk205 = true := by kernel_rfl
set_option maxRecDepth 1000000 in
theorem axk205_run : chkOut axk205 (run (envP Tryz.prog axk205_h) 100000 axk205.f axk205.args (addAll axk205.pre .nil) axk205.n) = true := by kernel_rfl
theorem axk206_ok : cutOk axk206 = true := by kernel_rfl
set_option maxRecDepth 1000000 in
theorem axk206_run : chkOut axk206 (run (envP Tryz.prog axk206_h) 100000 axk206.f axk206.args (addAll axk206.pre .nil) axk206.n) = true := by kernel_rfl
theorem axk207_ok : cutOk axk207 = true := by kernel_rfl
set_option maxRecDepth 1000000 in
theorem axk207_run : chkOut axk207 (run (envP Tryz.prog axk207_h) 100000 axk207.f axk207.args (addAll axk207.pre .nil) axk207.n) = true := by kernel_rfl
theorem axk208_ok : cutOk axk208 = true := by kernel_rfl
set_option maxRecDepth 1000000 in
theorem axk208_run : chkOut axk208 (run (envP Tryz.prog axk208_h) 100000 axk208.f axk208.args (addAll axk208.pre .nil) axk208.n) = true := by kernel_rfl
theorem axk209_ok : cutOk axk209 = true := by kernel_rfl
set_option maxRecDepth 1000000 in
theorem axk209_run : chkOut axk209 (run (envP Tryz.prog axk209_h) 100000 axk209.f axk209.args (addAll axk209.pre .nil) axk209.n) = true := by kernel_rfl
theorem axk210_ok : cutOk axk210 = true := by kernel_rfl
set_option maxRecDepth 1000000 in
theorem axk210_run : chkOut axk210 (run (envP Tryz.prog axk210_h) 100000 axk210.f axk210.args (addAll axk210.pre .nil) axk210.n) = true := by kernel_rfl
theorem axk211_ok : cutOk axk211 = true := by kernel_rfl
set_option maxRecDepth 1000000 in
theorem axk211_run : chkOut axk211 (run (envP Tryz.prog axk211_h) 100000 axk211.f axk211.args (addAll axk211.pre .nil) axk211.n) = true := by kernel_rfl
theorem axk212_ok : cutOk axk212 = true := by kernel_rfl
set_option maxRecDepth 1000000 in
theorem axk212_run : chkOut axk212 (run (envP Tryz.prog axk212_h) 100000 axk212.f axk212.args (addAll axk212.pre .nil) axk212.n) = true := by kernel_rfl
theorem axk213_ok : cutOk axk213 = true := by kernel_rfl
set_option maxRecDepth 1000000 in
theorem axk213_run : chkOut axk213 (run (envP Tryz.prog axk213_h) 100000 axk213.f axk213.args (addAll axk213.pre .nil) axk213.n) = true := by kernel_rfl
theorem axk214_ok : cutOk axk214 = true := by kernel_rfl
set_option maxRecDepth 1000000 in
theorem axk214_run : chkOut axk214 (run (envP Tryz.prog axk214_h) 100000 axk214.f axk214.args (addAll axk214.pre .nil) axk214.n) = true := by kernel_rfl
theorem axk215_ok : cutOk axk215 = true := by kernel_rfl
set_option maxRecDepth 1000000 in
theorem axk215_run : chkOut axk215 (run (envP Tryz.prog axk215_h) 100000 axk215.f axk215.args (addAll axk215.pre .nil) axk215.n) = true := by kernel_rfl
theorem axk216_ok : cutOk axk216 = true := by kernel_rfl
set_option maxRecDepth 1000000 in
theorem axk216_run : chkOut axk216 (run (envP Tryz.prog axk216_h) 100000 axk216.f axk216.args (addAll axk216.pre .nil) axk216.n) = true := by kernel_rfl
theorem axk217_ok : cutOk axk217 = true := by kernel_rfl
set_option maxRecDepth 1000000 in
theorem axk217_run : chkOut axk217 (run (envP Tryz.prog axk217_h) 100000 axk217.f axk217.args (addAll axk217.pre .nil) axk217.n) = true := by kernel_rfl
theorem axk218_ok : cutOk axk218 = true := by kernel_rfl
set_option maxRecDepth 1000000 in
theorem axk218_run : chkOut axk218 (run (envP Tryz.prog axk218_h) 100000 axk218.f axk218.args (addAll axk218.pre .nil) axk218.n) = true := by kernel_rfl
theorem axk219_ok : cutOk axk219 = true := by kernel_rfl
set_option maxRecDepth 1000000 in
theorem axk219_run : chkOut axk219 (run (envP Tryz.prog axk219_h) 100000 axk219.f axk219.args (addAll axk219.pre .nil) axk219.n) = true := by kernel_rfl
theorem axk220_ok : cutOk axk220 = true := by kernel_rfl
set_option maxRecDepth 1000000 in
theorem axk220_run : chkOut axk220 (run (envP Tryz.prog axk220_h) 100000 axk220.f axk220.args (addAll axk220.pre .nil) axk220.n) = true := by kernel_rfl
theorem axk221_ok : cutOk axk221 = true := by kernel_rfl
set_option maxRecDepth 1000000 in
theorem axk221_run : chkOut axk221 (run (envP Tryz.prog axk221_h) 100000 axk221.f axk221.args (addAll axk221.pre .nil) axk221.n) = true := by kernel_rfl
theorem axk222_ok : cutOk axk222 = true := by kernel_rfl
set_option maxRecDepth 1000000 in
theorem axk222_run : chkOut axk222 (run (envP Tryz.prog axk222_h) 100000 axk222.f axk222.args (addAll axk222.pre .nil) axk222.n) = true := by kernel_rfl
theorem axk223_ok : cutOk axk223 = true := by kernel_rfl
set_option maxRecDepth 1000000 in
theorem axk223_run : chkOut axk223 (run (envP Tryz.prog axk223_h) 100000 axk223.f axk223.args (addAll axk223.pre .nil) axk223.n) = true := by kernel_rfl
theorem axk224_ok : cutOk axk224 = true := by kernel_rfl
set_option maxRecDepth 1000000 in
theorem axk224_run : chkOut axk224 (run (envP Tryz.prog axk224_h) 100000 axk224.f axk224.args (addAll axk224.pre .nil) axk224.n) = true := by kernel_rfl
theorem axk225_ok : cutOk axk225 = true := by kernel_rfl
set_option maxRecDepth 1000000 in
theorem axk225_run : chkOut axk225 (run (envP Tryz.prog axk225_h) 100000 axk225.f axk225.args (addAll axk225.pre .nil) axk225.n) = true := by kernel_rfl
end Go.Proofs.YtnglahcjemgcaaaGreatDoor
