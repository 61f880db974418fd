/- All printed functions; no condition. -/
import Derived.Test.YtapomjhjpejimaaGlx0
