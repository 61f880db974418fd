/- All printed functions; no condition. -/
import Derived.Test.YtidpbnbjpglhfaaGlx3
